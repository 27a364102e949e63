/- Walk of the statement CacheKeeps of chapter 9: it returns true. -/
import Derived.Test.YtjldocpjoiibjaaC46
import Derived.Test.YtjldocpjoiibjaaC41
import Derived.Deep.DeepCutAuto
namespace Go.Proofs.Ytjldocpjoiibjaa
open Go.RowKit

/-- What CacheKeeps' round has at its head. -/
def KSt (W w : World) (cb db pm m p : Nat) : Prop := ∃ (Q L : List Bf) (s : Int) (F : Nat → Prop) (D : Int × Int → Option (List Value)) (N : Int × Int → Int),
  One W w cb m s Q F ∧ Lru Q s L ∧ (0 ≤ s ∧ s ≤ p) ∧ Good m p (L.map Bf.pb) ∧ Keep (L.map Bf.pb) D N ∧ DMap w F db D ∧ NMap w pm N ∧ ¬ F db ∧ ¬ F pm

/-- One for each key of the row. -/
def onesF (K : List (Int × Int)) : Int × Int → Option Value := fun k => if k ∈ K then some (.int .i64 1) else none
theorem onesF_step {K : List (Int × Int)} {t : Nat} {k : Int × Int} (h : K[t]? = some k) : putF (onesF (K.take t)) k (.int .i64 1) = onesF (K.take (t + 1)) := by
  funext x
  unfold putF onesF
  rw [List.take_add_one, h]
  by_cases e : x = k
  · rw [if_pos e, e, if_pos (by simp)]
  · rw [if_neg e]
    by_cases hx : x ∈ K.take t
    · rw [if_pos hx, if_pos (by simp [hx])]
    · rw [if_neg hx, if_neg (by simp [hx, e])]
theorem onesF_new {K : List (Int × Int)} {t : Nat} {k : Int × Int} (h : K[t]? = some k) (hn : K.Nodup) : onesF (K.take t) k = none := by
  unfold onesF
  rw [if_neg]
  intro hx
  obtain ⟨i, hi⟩ := List.mem_iff_getElem?.1 hx
  have hil := (List.getElem?_eq_some_iff.1 hi).1
  rw [List.length_take] at hil
  rw [List.getElem?_take, if_pos (by omega)] at hi
  have := (List.getElem?_inj (by omega) hn).1 (hi.trans h.symm)
  omega
theorem onesF_some (K : List (Int × Int)) (k : Int × Int) : k ∈ K ↔ (onesF K k).isSome = true := by
  unfold onesF
  by_cases h : k ∈ K <;> simp [h]
theorem dirty_mem {m p : Nat} {s : Int} {Q L : List Bf} {D : Int × Int → Option (List Value)} {N : Int × Int → Int} {M : List (Int × Int)} (hL : Lru Q s L) (hG : Good m p (L.map Bf.pb)) (hK : Keep (L.map Bf.pb) D N) (hM : M.Perm (dirtyK Q)) :
    M.Nodup ∧ (∀ k, k ∈ M ↔ (D k).isSome = true) ∧ ∀ k ∈ M, k ∈ L.map Bf.key := by
  have hkn : (L.map Bf.key).Nodup := by have := hG.keys; rw [List.map_map] at this; exact this
  have hqn : (Q.map Bf.key).Nodup := (hL.perm.map Bf.key).nodup_iff.2 hkn
  have hmem : ∀ k, k ∈ M ↔ ∃ b ∈ Q, b.dirty = true ∧ b.key = k := fun k => by
    rw [hM.mem_iff]
    unfold dirtyK
    simp only [List.mem_map, List.mem_filter]
    exact ⟨fun ⟨b, ⟨h1, h2⟩, h3⟩ => ⟨b, h1, h2, h3⟩, fun ⟨b, h1, h2, h3⟩ => ⟨b, ⟨h1, h2⟩, h3⟩⟩
  refine ⟨hM.nodup_iff.2 (List.Nodup.sublist (List.Sublist.map _ (List.filter_sublist)) hqn), fun k => ?_, fun k hk => ?_⟩
  · rw [hmem]
    constructor
    · rintro ⟨b, hb, hd, rfl⟩
      have := hK.d.at_ b.pb (List.mem_map.2 ⟨b, hL.perm.mem_iff.1 hb, rfl⟩)
      rw [show D b.key = _ from this]
      unfold aD
      rw [show b.pb.dirty = true from hd]; rfl
    · intro hs
      by_cases hx : ∃ b ∈ L, b.key = k
      · obtain ⟨b, hb, rfl⟩ := hx
        refine ⟨b, hL.perm.mem_iff.2 hb, ?_, rfl⟩
        have := hK.d.at_ b.pb (List.mem_map.2 ⟨b, hb, rfl⟩)
        rw [show D b.key = _ from this] at hs
        unfold aD at hs
        cases hd : b.dirty with
        | true => rfl
        | false => rw [if_neg (by rw [show b.pb.dirty = false from hd]; simp)] at hs; cases hs
      · have := hK.d.off k (fun b hb e => by
          obtain ⟨x, hx', rfl⟩ := List.mem_map.1 hb
          exact hx ⟨x, hx', e⟩)
        rw [this] at hs
        cases hs
  · obtain ⟨b, hb, _, rfl⟩ := (hmem k).1 hk
    exact List.mem_map.2 ⟨b, hL.perm.mem_iff.1 hb, rfl⟩
theorem ones_bump {w : World} {mb t : Nat} {K : List (Int × Int)} {k : Int × Int} (h : PMap w mb (onesF (K.take t))) (hk : K[t]? = some k) (hn : K.Nodup) :
    ∃ (w1 w2 : World) (st : Nat), (Instr.lookup 64 (.map (some mb)) (keyV k) false).run Try.prog w = .ok (.int .i64 0) w ∧ (Instr.mapEntry 64 (.map (some mb)) (keyV k)).run Try.prog w = .ok (.tuple #[.int .i64 0, .int .i64 st]) w1 ∧
      (Instr.lookup 64 (.map (some mb)) (keyV k) false).run Try.prog w1 = .ok (.int .i64 0) w1 ∧ Fr (fun x => x = mb) w w1 ∧
      (Instr.entryStore 64 (.map (some mb)) (.int .i64 st) (.int .i64 1)).run Try.prog w1 = .ok () w2 ∧ PMap w2 mb (onesF (K.take (t + 1))) ∧ Fr (fun x => x = mb) w w2 := by
  have h0 := onesF_new hk hn
  obtain ⟨w1, st, r1, p1, f1, hst⟩ := h.bump Try.underlying64 zero_int k
  obtain ⟨w2, r2, p2, f2⟩ := hst (.int .i64 1)
  have l1 := h.mp.look1 Try.underlying64 (zero_int w) k
  have l2 := p1.mp.look1 Try.underlying64 (zero_int w1) k
  rw [h0] at r1 l1 l2
  rw [onesF_step hk] at p2
  refine ⟨w1, w2, st, l1, r1, ?_, f1, r2, p2, f2⟩
  rw [l2]
  unfold putF
  rw [if_pos rfl]; rfl

set_option maxHeartbeats 8000000 in
set_option maxRecDepth 100000 in
theorem lawKeeps_any (r : Int) (v : Value) (ops : List (Opr × Value)) (w : World) (hv : OpsAt w.heap.size w v ops) :
    Calls Try.prog 7 #[.int .i64 r, v] w fun e w' => e = .returned (.bool true) ∧ Below w.heap.size w w' := by
  obtain ⟨av, cv, rfl, hops⟩ := hv
  obtain ⟨m, hm0, hm1, hmw⟩ : ∃ m : Nat, 0 < m ∧ m ≤ 6 ∧ RowKit.wrap64 (RowKit.wrap64 ((IntKind.u64.wrap r).tmod 6) + 1) = (m : Int) := by
    have h0 : 0 ≤ IntKind.u64.wrap r := by simp only [IntKind.wrap, IntKind.signed, IntKind.bits]; simp; omega
    refine ⟨(IntKind.u64.wrap r % 6).toNat + 1, by omega, by omega, ?_⟩
    rw [Int.tmod_eq_emod_of_nonneg h0]
    unfold RowKit.wrap64; omega
  have HM := Lib.hid hmw; clear hmw
  have HO := Lib.hid hops; clear hops
  have HN := Lib.hid (fun w => cNew_any (room := (m : Int)) (by omega) (by omega) w)
  go_enter Try.func7, Try.ntmps7
  go_wp2_with fail
  refine (awake_any _).mono ?_
  rintro e w1 ⟨rfl, hb1⟩
  go_wp2_with fail
  rw [HM.out]
  refine (HN.out _).mono ?_
  rintro e w2 ⟨cb, rfl, hc2, hb2⟩
  have T0 := Lib.hid (One.mk (W := w) hc2 (fun x h => Nat.le_trans hb1.size h.1) (below_call hb1 hb2 (Nat.le_refl _)))
  clear hc2 hb2 hb1 HN
  have mm := fun w => run_makeMap (P := Try.prog) 63 w
  have mm2 := fun w => run_makeMap (P := Try.prog) 64 w
  go_wp2_with fail
  obtain ⟨F0, hT0, hF0⟩ : ∃ F0, One w w2 cb m 0 [] F0 ∧ ∀ x, F0 x → x < w2.heap.size := ⟨_, T0.out, T0.out.c.lt⟩
  have hst : KSt w ((w2.alloc (.map #[] 0)).alloc (.map #[] 0)) cb w2.heap.size (w2.heap.size + 1) m 0 :=
    ⟨[], [], 0, F0, fun _ => none, fun _ => 0, (hT0.alloc _).alloc _, Lru.nil, ⟨by omega, by omega⟩, ⟨by simp, by simp, by simp, by simp⟩, ⟨⟨by simp, fun _ _ => rfl⟩, ⟨by simp, fun _ _ => rfl⟩⟩,
      DMap.new _ _ _ (blk_old (blk_new rfl)), NMap.new _ _ (blk_new (by simp)), fun h => by have := hF0 _ h; omega, fun h => by have := hF0 _ h; omega⟩
  have hl0 : w.heap.size ≤ w2.heap.size := T0.out.bel.size
  have hl1 : w.heap.size ≤ w2.heap.size + 1 := by omega
  have hdp : w2.heap.size ≠ w2.heap.size + 1 := by omega
  generalize (w2.alloc (.map #[] 0)).alloc (.map #[] 0) = wM at hst ⊢
  generalize w2.heap.size + 1 = pm at hst hl1 hdp ⊢
  generalize w2.heap.size = db at hst hl0 hdp ⊢
  have K0 := Lib.hid hst
  clear hst hT0 hF0 T0 mm mm2
  go_loopg [9] 80 (fun f i wr => ∃ p : Nat, f + p = 80 ∧ p ≤ ops.length ∧ i = .int .i64 p ∧ KSt w wr cb db pm m p)
  case atStart => exact ⟨0, by omega, Nat.zero_le _, rfl, K0.out⟩
  case round =>
    obtain ⟨p, hgk, hpo, rfl, hks⟩ := hrel
    obtain ⟨Q, L, s, F, D, N, hT, hL, ⟨hs0, hs1⟩, hG, hK, hD, hN, hFd, hFp⟩ := hks
    have T := Lib.hid hT; have L1 := Lib.hid hL; have G1 := Lib.hid hG; have KP := Lib.hid hK; have DM := Lib.hid hD; have NM := Lib.hid hN
    clear hT hL hG hK hD hN K0
    by_cases hgo : p < ops.length ∧ p < 80
    · obtain ⟨hg1, hg2⟩ := hgo
      obtain ⟨f, rfl⟩ : ∃ f, gk = f + 1 := ⟨gk - 1, by omega⟩
      obtain ⟨ga, oa, rfl, hga, hat⟩ := HO.out (by omega)
      obtain ⟨⟨op, dv⟩, hx⟩ : ∃ x, ops[p]? = some x := ⟨_, List.getElem?_eq_getElem hg1⟩
      obtain ⟨c0, c1, c2, c3, c4, c5, hdat⟩ := (hat p _ hx).below hga T.out.bel
      obtain ⟨ad, cd, hdv⟩ := hdat.shape
      obtain rfl : dv = .slice ad op.data.length cd := hdv
      obtain ⟨kind, ⟨k1, k2⟩, ys, raw, dirty⟩ := op
      simp only at c0 c1 c2 c3 c4 c5
      have DA := Lib.hid hdat
      clear hat hx hdat
      by_cases hbig : 200 < ys.length
      focus
        go_wp2_with fail
        go_roundg f
        case rel => exact ⟨p + 1, by omega, by omega, by go_num, Q, L, s, F, D, N, T.out.alloc _, L1.out, ⟨hs0, by omega⟩, G1.out.more, KP.out, DM.out.still ((Fr.refl _ wr).alloc _), NM.out.fr ((Fr.refl (fun _ => False) wr).alloc _) id, hFd, hFp⟩
        all_goals omega
      have hkb : wr.heap.size < (wr.alloc (.cells #[.int .i64 kind, .int .i64 k1, .int .i64 k2, .slice ad ys.length cd, .bool false, .bool dirty] 45)).heap.size := by simp
      have hkF : ¬ F wr.heap.size := fun h => by have := T.out.c.lt _ h; omega
      obtain ⟨_, hdm⟩ := DM.out.mp
      obtain ⟨_, hpmm⟩ := NM.out.mp
      have hdlt := hdm.lt
      have hplt := hpmm.lt
      clear hdm hpmm
      have TX0 := T.out.alloc (.cells #[.int .i64 kind, .int .i64 k1, .int .i64 k2, .slice ad ys.length cd, .bool false, .bool dirty] 45)
      have hfx : Fr (fun _ => False) wr (wr.alloc (.cells #[.int .i64 kind, .int .i64 k1, .int .i64 k2, .slice ad ys.length cd, .bool false, .bool dirty] 45)) := (Fr.refl _ wr).alloc _
      have hbx := opBox_new wr ⟨kind, (k1, k2), ys, false, dirty⟩ (.slice ad ys.length cd)
      unfold opCells at hbx
      have hpl := play_any (o := ⟨kind, (k1, k2), ys, false, dirty⟩) (v := .slice ad ys.length cd) (B := w.heap.size) TX0.c L1.out hs0 (by omega) (by have := G1.out.len; rw [List.length_map] at this; exact this) (by omega)
        (fun b hb => by have := G1.out.pins b.pb (List.mem_map.2 ⟨b, hb, rfl⟩); have h1 := this.1; have h2 := this.2; exact ⟨h1, Int.le_trans h2 (by omega)⟩)
        (DA.out.fr hfx (fun _ h => h.elim) T.out.bel.size) TX0.bel.size (by show ys.length ≤ 1000; omega)
      have PL := Lib.hid hpl; have TX := Lib.hid TX0; have BX := Lib.hid hbx
      have DX := Lib.hid (DA.out.fr hfx (fun _ h => h.elim) T.out.bel.size)
      have DMX := Lib.hid (DM.out.still hfx); have NMX := Lib.hid (NM.out.fr hfx id)
      clear hpl TX0 hfx hbx DA DM NM
      go_wp2_with fail
      refine PL.out.mono ?_
      rintro e w3 ⟨er, bv, res, rfl, ⟨Q2, s2, F2, L2, hc2, hl2, h3, h4, hf2, hF2, hst⟩, hr⟩
      have T2 := Lib.hid (TX.out.step hc2 hf2 hF2)
      have D3 := Lib.hid (DX.out.fr hf2 TX.out.low TX.out.bel.size)
      have hbx2 := BX.out.same (hf2.block _ hkb hkF)
      have hsx : wr.heap.size ≤ (wr.alloc (.cells #[.int .i64 kind, .int .i64 k1, .int .i64 k2, .slice ad ys.length cd, .bool false, .bool dirty] 45)).heap.size := by simp
      have hFd2 : ¬ F2 db := fun h => by
        rcases hF2 db h with h | h
        · exact hFd h
        · omega
      have hFp2 : ¬ F2 pm := fun h => by
        rcases hF2 pm h with h | h
        · exact hFp h
        · omega
      have DM2 := Lib.hid (DMX.out.step hf2 hF2 hFd); have NM2 := Lib.hid (NMX.out.fr hf2 hFp)
      have G2 := Lib.hid (hst.good G1.out)
      have L2' := Lib.hid hl2; have BX2 := Lib.hid hbx2; have ST := Lib.hid hst
      have hkb3 : wr.heap.size < w3.heap.size := blk_of_cell hbx2.c0
      have hs2 : 0 ≤ s2 := by omega
      have hs3 : s2 ≤ ((p + 1 : Nat) : Int) := by omega
      generalize wr.heap.size = kb at BX2 hkb3 ⊢
      clear hc2 hl2 hf2 hF2 hst hr hbx2 PL TX BX DX DMX NMX T L1 hdlt hplt hkF hkb hsx c0 c1 c2 c3 c4 c5
      obtain ⟨e0, e1, e2, e3, e4, e5⟩ := BX2.out
      simp only at e0 e1 e2 e3 e4 e5
      clear BX2
      go_upto_if 76 with fail
      go_cut [] (fun wx => KSt w wx cb db pm m (p + 1))
      case first =>
        as_aux_lemma =>
          by_cases her : er = 0
          · subst her
            by_cases hk1 : kind = 1
            · subst hk1
              have KB := Lib.hid (ST.out.keep1 G1.out KP.out rfl rfl)
              obtain ⟨vd, lk⟩ := DM2.out.look2 (k1, k2)
              unfold keyV at lk
              by_cases hput : (D (k1, k2)).isSome = true ∨ dirty = true
              · have hpd : putsD D ⟨1, (k1, k2), ys, false, dirty⟩ = putD D (k1, k2) (some (pat ys)) := if_pos hput
                rw [hpd] at KB
                have hb : ∃ b1 b2, (D (k1, k2)).isSome = b1 ∧ dirty = b2 ∧ ((b1 = true) ∨ (b1 = false ∧ b2 = true)) := by
                  cases h1 : (D (k1, k2)).isSome
                  · rw [h1] at hput
                    exact ⟨false, dirty, rfl, rfl, .inr ⟨rfl, by simpa using hput⟩⟩
                  · exact ⟨true, dirty, rfl, rfl, .inl rfl⟩
                obtain ⟨b1, b2, hb1, hb2, hbb⟩ := hb
                rw [hb1] at lk
                rcases hbb with rfl | ⟨rfl, rfl⟩
                focus
                  go_wp2_with fail
                rotate_left
                focus
                  subst hb2
                  go_wp2_with fail
                all_goals
                  have TD := Lib.hid T2.out.drew
                  have DMD := Lib.hid (DM2.out.still (Fr.refl (fun _ => False) w3).drew)
                  have NMD := Lib.hid (NM2.out.fr (Fr.refl (fun _ => False) w3).drew id)
                  have DD := Lib.hid (D3.out.fr (Fr.refl (fun _ => False) w3).drew (fun _ h => h.elim) T2.out.bel.size)
                  have d1 : w3.drew.cell? ⟨kb, 1, none⟩ = some (.int .i64 k1) := e1
                  have d2 : w3.drew.cell? ⟨kb, 2, none⟩ = some (.int .i64 k2) := e2
                  have d3 : w3.drew.cell? ⟨kb, 3, none⟩ = some (.slice ad ys.length cd) := e3
                  have hkd : kb < w3.drew.heap.size := hkb3
                  generalize hwd : w3.drew = wd at TD DMD NMD DD d1 d2 d3 hkd
                  clear e0 e1 e2 e3 e4 e5 T2 DM2 NM2 D3 lk hput hpd hb1 KP ST
                  first
                    | go_region_law
                      (first
                        | (go_simp; go_at_call 11
                           refine (bytes_of DD.out TD.out.bel.size (by omega)).mono ?_
                           rintro e wB ⟨gB, rfl, hgB1, hgB2, hbB, hdB⟩
                           have TB := Lib.hid (TD.out.below hbB)
                           have DMB := DMD.out.still (Fr.below (S := fun _ => False) hbB)
                           have NMB := NMD.out.fr (Fr.below (S := fun _ => False) hbB) id
                           have b1' := (World.cell?_of_block (w := wd) (a := ⟨kb, 1, none⟩) (hbB.block kb hkd)).trans d1
                           have b2' := (World.cell?_of_block (w := wd) (a := ⟨kb, 2, none⟩) (hbB.block kb hkd)).trans d2
                           obtain ⟨wC, hup, hMC, hfC⟩ := DMB.put (k1, k2) (v := .slice (some ⟨gB, 0, none⟩) 64 64) ⟨gB, rfl, pat_len ys, pat_allB ys, fun hx => by have := TD.out.c.lt gB hx; omega, hgB2, hdB⟩
                           unfold keyV at hup
                           have TC := Lib.hid (TB.out.other hfC hFd2 hl0); have DMC := Lib.hid hMC; have NMC := Lib.hid (NMB.fr hfC (Ne.symm hdp))
                           clear hgB1 hgB2 hbB hdB DMB NMB hMC hfC
                           dsimp only))
                    | fail
                  all_goals
                    clear b1' b2' hup hwd TD DMD NMD DD d1 d2 d3 hkd
                    go_wp2_with fail
                    go_meet
                    case rel => exact ⟨Q2, L2, s2, F2, _, N, TC.out, L2'.out, ⟨hs2, hs3⟩, G2.out, KB.out, DMC.out, NMC.out, hFd2, hFp2⟩
              · have hpd : putsD D ⟨1, (k1, k2), ys, false, dirty⟩ = D := if_neg hput
                rw [hpd] at KB
                have h1 : (D (k1, k2)).isSome = false := by cases h : (D (k1, k2)).isSome with | false => rfl | true => exact absurd (.inl h) hput
                have h2 : dirty = false := by cases h : dirty with | false => rfl | true => exact absurd (.inr h) hput
                subst h2
                rw [h1] at lk
                go_wp2_with fail
                go_meet
                case rel => exact ⟨Q2, L2, s2, F2, D, N, T2.out, L2'.out, ⟨hs2, hs3⟩, G2.out, KB.out, DM2.out, NM2.out, hFd2, hFp2⟩
            by_cases hk2 : kind = 2
            · subst hk2
              have KB := Lib.hid (ST.out.keep2 KP.out rfl)
              go_wp2_with fail
              go_meet
              case rel => exact ⟨Q2, L2, s2, F2, D, N, T2.out, L2'.out, ⟨hs2, hs3⟩, G2.out, KB.out, DM2.out, NM2.out, hFd2, hFp2⟩
            by_cases hk3 : kind = 3
            · subst hk3
              have KB := Lib.hid (ST.out.keep3 G1.out KP.out rfl rfl)
              obtain ⟨wC, hdel, hMC, hfC⟩ := DM2.out.del (k1, k2)
              unfold keyV at hdel
              have TC := Lib.hid (T2.out.other hfC hFd2 hl0); have DMC := Lib.hid hMC; have NMC := Lib.hid (NM2.out.fr hfC (Ne.symm hdp))
              clear hMC hfC
              go_wp2_with fail
              go_meet
              case rel => exact ⟨Q2, L2, s2, F2, _, N, TC.out, L2'.out, ⟨hs2, hs3⟩, G2.out, KB.out, DMC.out, NMC.out, hFd2, hFp2⟩
            by_cases hk6 : kind = 6
            · subst hk6
              obtain ⟨hn0, hkb'⟩ := ST.out.keep6 G1.out KP.out rfl rfl
              have KB := Lib.hid hkb'
              have lk := NM2.out.look (k1, k2)
              unfold keyV at lk
              rw [show N (k1, k2) = 0 from hn0] at lk
              obtain ⟨wC, hdel, hMC, hfC⟩ := DM2.out.del (k1, k2)
              unfold keyV at hdel
              have TC := Lib.hid (T2.out.other hfC hFd2 hl0); have DMC := Lib.hid hMC; have NMC := Lib.hid (NM2.out.fr hfC (Ne.symm hdp))
              clear hMC hfC hkb' hn0
              go_wp2_with fail
              go_meet
              case rel => exact ⟨Q2, L2, s2, F2, _, N, TC.out, L2'.out, ⟨hs2, hs3⟩, G2.out, KB.out, DMC.out, NMC.out, hFd2, hFp2⟩
            by_cases hk45 : kind = 4 ∨ kind = 5
            · have hbo := KP.out.bound G1.out (k1, k2)
              rcases hk45 with rfl | rfl
              focus
                have KB := Lib.hid (ST.out.keep4 G1.out KP.out rfl rfl)
                have sw : IntKind.i64.wrap (N (k1, k2) + 1) = N (k1, k2) + 1 := IntWalk.i64_in _ (by omega)
                obtain ⟨wE, wC, st, rE, hNE, hfE, rC, hNC, hfC⟩ := NM2.out.fr (Fr.refl (fun _ => False) w3).drew id |>.bump (k1, k2) (N (k1, k2) + 1)
                have KN := Lib.hid KB.out
                have lk := (NM2.out.fr (Fr.refl (fun _ => False) w3).drew id).look (k1, k2)
                have lk2 := hNE.look (k1, k2)
                go_wp2_with fail
              rotate_left
              focus
                have KB := Lib.hid (ST.out.keep5 G1.out KP.out rfl rfl)
                have sw : IntKind.i64.wrap (N (k1, k2) - 1) = N (k1, k2) - 1 := IntWalk.i64_in _ (by omega)
                obtain ⟨wE, wC, st, rE, hNE, hfE, rC, hNC, hfC⟩ := NM2.out.fr (Fr.refl (fun _ => False) w3).drew id |>.bump (k1, k2) (N (k1, k2) - 1)
                have KN := Lib.hid KB.out
                have lk := (NM2.out.fr (Fr.refl (fun _ => False) w3).drew id).look (k1, k2)
                have lk2 := hNE.look (k1, k2)
                go_wp2_with fail
              all_goals
                unfold keyV at rE lk lk2
                obtain ⟨_, hdm⟩ := NM2.out.mp
                have hkn : kb ≠ pm := by
                  rintro rfl
                  obtain ⟨E, ⟨es, c, hb, _⟩, _⟩ := hdm
                  unfold World.cell? at e1
                  rw [hb] at e1
                  simp at e1
                have TC := Lib.hid (T2.out.drew.other hfC hFp2 hl1); have DMC := Lib.hid ((DM2.out.still (Fr.refl (fun _ => False) w3).drew).other (NM2.out.fr (Fr.refl (fun _ => False) w3).drew id).mp.choose_spec hdp hfC); have NMC := Lib.hid hNC
                have d1 : w3.drew.cell? ⟨kb, 1, none⟩ = some (.int .i64 k1) := e1
                have d2 : w3.drew.cell? ⟨kb, 2, none⟩ = some (.int .i64 k2) := e2
                have d1' := (World.cell?_of_block (w := w3.drew) (a := ⟨kb, 1, none⟩) (hfE.block kb hkb3 hkn)).trans d1
                have d2' := (World.cell?_of_block (w := w3.drew) (a := ⟨kb, 2, none⟩) (hfE.block kb hkb3 hkn)).trans d2
                generalize N (k1, k2) = nk at rE rC lk lk2 sw hbo
                generalize hwd : w3.drew = wd at rE lk d1 d2
                clear hNE hfE hNC hfC hdm e0 e1 e2 e3 e4 e5 T2 DM2 NM2 D3 KB ST
                first
                  | go_region_law (fail)
                  | fail
                all_goals
                  clear d1 d2 d1' d2' rE rC lk lk2 sw hbo hwd
                  go_wp2_with fail
                  go_meet
                  case rel => exact ⟨Q2, L2, s2, F2, D, _, TC.out, L2'.out, ⟨hs2, hs3⟩, G2.out, KN.out, DMC.out, NMC.out, hFd2, hFp2⟩
            · have KB := Lib.hid (ST.out.keep0 KP.out hk1 hk2 hk3 (fun h => hk45 (.inl h)) (fun h => hk45 (.inr h)) hk6)
              have q1 : (kind == 1) = false := beq_eq_false_iff_ne.2 hk1
              have q3 : (kind == 3) = false := beq_eq_false_iff_ne.2 hk3
              have q4 : (kind == 4) = false := beq_eq_false_iff_ne.2 fun h => hk45 (.inl h)
              have q5 : (kind == 5) = false := beq_eq_false_iff_ne.2 fun h => hk45 (.inr h)
              have q6 : (kind == 6) = false := beq_eq_false_iff_ne.2 hk6
              go_wp2_with fail
              go_meet
              case rel => exact ⟨Q2, L2, s2, F2, D, N, T2.out, L2'.out, ⟨hs2, hs3⟩, G2.out, KB.out, DM2.out, NM2.out, hFd2, hFp2⟩
          · have q1 : (er == 0) = false := beq_eq_false_iff_ne.2 her
            have hpp := ST.out.fail her
            go_wp2_with fail
            go_meet
            case rel => exact ⟨Q2, L2, s2, F2, D, N, T2.out, L2'.out, ⟨hs2, hs3⟩, G2.out, by rw [hpp]; exact KP.out, DM2.out, NM2.out, hFd2, hFp2⟩
      case rest =>
        as_aux_lemma =>
          obtain ⟨Qa, La, sa, Fa, Da, Na, hT, hL, ⟨hsa0, hsa1⟩, hG, hK, hD, hN, hFda, hFpa⟩ := hcut
          clear T2 D3 hFd2 hFp2 DM2 NM2 G2 L2' ST hs2 hs3 hkb3 e0 e1 e2 e3 e4 e5 G1 KP hFd hFp hs0 hs1 h3 h4
          have hth : ¬ Fa wc.heap.size := fun h => by have := hT.c.lt _ h; omega
          have hdlt := hD.mp.choose_spec.lt
          have hplt := hN.mp.choose_spec.lt
          have hfx : Fr (fun _ => False) wc (wc.alloc (.map #[] 0)) := (Fr.refl _ wc).alloc _
          have T := Lib.hid (hT.alloc (.map #[] 0)); have L1 := Lib.hid hL; have G1 := Lib.hid hG; have KP := Lib.hid hK; have DM := Lib.hid (hD.still hfx); have NM := Lib.hid (hN.fr hfx id)
          have TH0 := Lib.hid (PMap.new (wc.alloc (.map #[] 0)) wc.heap.size (blk_new rfl))
          have hlt0 : w.heap.size ≤ wc.heap.size := hT.bel.size
          have hdt : db ≠ wc.heap.size := by omega
          have hpt : pm ≠ wc.heap.size := by omega
          clear hT hL hG hK hD hN hfx hdlt hplt
          have mm := fun w => run_makeMap (P := Try.prog) 64 w
          go_wp2_with fail
          clear mm
          generalize wc.alloc (.map #[] 0) = wt at T DM NM TH0 ⊢
          generalize wc.heap.size = th at hth TH0 hlt0 hdt hpt ⊢
          have hll : La.length ≤ m := by have := G1.out.len; rw [List.length_map] at this; exact this
          refine (cOrder_any T.out.c L1.out (by rw [L1.out.perm.length_eq]; omega)).mono ?_
          rintro e w5 ⟨v5, rfl, hown, hb5⟩
          obtain ⟨a5, c5, hsh⟩ := own_shape hown
          subst hsh
          have hks : 0 < La.length → ∃ g, a5 = some ⟨g, 0, none⟩ ∧ KeysAt w5 g (La.map Bf.key) ∧ wt.heap.size ≤ g := fun h0 => by
            obtain ⟨g, c, he, hgg, hka, _⟩ := keys_own hown h0
            obtain ⟨h1, _⟩ := Value.slice.inj he
            exact ⟨g, h1, hka, hgg⟩
          have hthlt := TH0.out.mp.lt
          have T5 := Lib.hid (T.out.below hb5); have DM5 := Lib.hid (DM.out.still (Fr.below hb5)); have NM5 := Lib.hid (NM.out.fr (Fr.below (S := fun _ => False) hb5) id); have TH5 := Lib.hid (TH0.out.fr (Fr.below (S := fun _ => False) hb5) id)
          have HK := Lib.hid hks
          clear hks hown hb5 T DM NM TH0
          go_wp2_with fail
          go_loopw [136] (fun i wy => ∃ t : Nat, t ≤ La.length ∧ i = .int .i64 t ∧ Fr (fun x => x = th) w5 wy ∧ PMap wy th (onesF ((La.map Bf.key).take t))) (fun i _ => La.length - (intOf i).toNat)
          case atStart => exact ⟨0, Nat.zero_le _, rfl, Fr.refl _ _, by rw [show onesF ((La.map Bf.key).take 0) = fun _ => none by funext x; simp [onesF]]; exact TH5.out⟩
          case round =>
            obtain ⟨t, ht, rfl, hfy, hny⟩ := hrel
            have FY := Lib.hid hfy; have NY := Lib.hid hny
            clear hfy hny
            by_cases hlt : t < La.length
            · obtain ⟨g, rfl, hka, hgw⟩ := HK.out (by omega)
              obtain ⟨b0, hb0⟩ : ∃ b, La[t]? = some b := ⟨_, List.getElem?_eq_getElem hlt⟩
              have hmk : (La.map Bf.key)[t]? = some (b0.k1, b0.k2) := by rw [List.getElem?_map, hb0]; rfl
              have hkn : (La.map Bf.key).Nodup := by have := G1.out.keys; rw [List.map_map] at this; exact this
              have hky := hka.below (FY.out.block g hka.lt (fun e => by have : g = th := e; omega)) FY.out.size
              have d1 : wr.cell? ⟨g, t * 2, none⟩ = some (.int .i64 b0.k1) := hky.c1 t _ hmk
              have d2 : wr.cell? ⟨g, t * 2 + 1, none⟩ = some (.int .i64 b0.k2) := hky.c2 t _ hmk
              have m1 : (t : Int) < (La.length : Int) := by omega
              have m2 : (0 : Int) ≤ (t : Int) := by omega
              have HMK := Lib.hid hmk; have HKN := Lib.hid hkn
              clear hky hmk hka hb0 hkn
              go_wp2_with fail
              have kx : (wr.alloc (.cells #[.int .i64 b0.k1, .int .i64 b0.k2] 29)).heap[wr.heap.size]? = some (.cells #[.int .i64 b0.k1, .int .i64 b0.k2] 29 (0, 0)) := blk_new rfl
              have hfx : Fr (fun _ => False) wr (wr.alloc (.cells #[.int .i64 b0.k1, .int .i64 b0.k2] 29)) := (Fr.refl _ wr).alloc _
              have hthr := NY.out.mp.lt
              have hkt : wr.heap.size ≠ th := by omega
              generalize wr.alloc (.cells #[.int .i64 b0.k1, .int .i64 b0.k2] 29) = wx at kx hfx ⊢
              generalize wr.heap.size = kb at kx hkt ⊢
              have hnx := (NY.out.fr hfx id).fr (Fr.refl (fun _ => False) wx).drew id
              obtain ⟨wE, wC, st, lk, rE, lk2, hfE, rC, hNC, hfC⟩ := ones_bump hnx HMK.out HKN.out
              unfold keyV at rE lk lk2
              have z1 : wx.drew.cell? ⟨kb, 0, none⟩ = some (.int .i64 b0.k1) := cell_blk_some kx rfl
              have z2 : wx.drew.cell? ⟨kb, 1, none⟩ = some (.int .i64 b0.k2) := cell_blk_some kx rfl
              have z1' := (World.cell?_of_block (w := wx.drew) (a := ⟨kb, 0, none⟩) (hfE.block kb (blk_lt kx) hkt)).trans z1
              have z2' := (World.cell?_of_block (w := wx.drew) (a := ⟨kb, 1, none⟩) (hfE.block kb (blk_lt kx) hkt)).trans z2
              have FC := Lib.hid (FY.out.trans ((hfx.mono fun _ _ h => h.elim).trans ((Fr.refl (fun x => x = th) wx).drew.trans hfC))); have NC := Lib.hid hNC
              clear hnx hfE hNC hfC kx hfx HMK HKN d1 d2 m1 m2
              generalize hwd : wx.drew = wd at rE lk z1 z2
              have one1 : IntKind.i64.wrap 1 = 1 := by decide
              first
                | go_region_law (fail)
                | fail
              all_goals
                clear z1 z2 z1' z2' rE rC lk lk2 hwd
                go_wp2_with fail
                go_round
                case rel => exact ⟨t + 1, by omega, by go_num, FC.out, NC.out⟩
                case measure => simp [intOf]; omega
            · obtain rfl : t = La.length := by omega
              have hn := NY.out
              rw [← List.length_map (f := Bf.key), List.take_length] at hn
              have NT := Lib.hid hn
              clear hn NY
              have hkn : (La.map Bf.key).Nodup := by have := G1.out.keys; rw [List.map_map] at this; exact this
              have T6 := Lib.hid (T5.out.other FY.out hth hlt0)
              have hthm := NT.out.mp
              have D6 := Lib.hid (DM5.out.other TH5.out.mp hdt FY.out)
              have N6 := Lib.hid (NM5.out.fr FY.out hpt)
              have hlen1 := hthm.len Try.underlying64 hkn (onesF_some _)
              rw [List.length_map] at hlen1
              have q1 : decide ((m : Int) < (La.length : Int)) = false := decide_eq_false (by omega)
              have q2 : ((La.length : Int) != (La.length : Int)) = false := by simp
              clear hthm DM5 NM5 T5 TH5
              have hql : Qa.length = La.length := L1.out.perm.length_eq
              have HQL := Lib.hid hql; clear hql
              go_wp2_with fail
              refine (cLen_any T6.out.c).mono ?_
              rintro e w6 ⟨rfl, hw⟩
              obtain rfl := hw.symm
              rw [HQL.out]
              go_wp2_with fail
              refine (cLen_any T6.out.c).mono ?_
              rintro e w6 ⟨rfl, hw⟩
              obtain rfl := hw.symm
              rw [HQL.out]
              go_wp2_with fail
              refine (cDirty_any T6.out.c (by rw [HQL.out]; omega)).mono ?_
              rintro e w6 ⟨a6, c6, M, rfl, -, hb6, hMp, -⟩
              obtain ⟨hMn, hMk, -⟩ := dirty_mem L1.out G1.out KP.out hMp
              have hlen2 := (D6.out.still (Fr.below hb6)).lenK hMn hMk
              have q3 : ((M.length : Int) != (M.length : Int)) = false := by simp
              have hthl := NT.out.mp.lt
              have T7 := Lib.hid (T6.out.below hb6); have D7 := Lib.hid (D6.out.still (Fr.below hb6)); have N7 := Lib.hid (N6.out.fr (Fr.below (S := fun _ => False) hb6) id); have NT7 := Lib.hid (NT.out.fr (Fr.below (S := fun _ => False) hb6) id)
              clear hlen1 q1 q2 hb6 hMp hMn hMk T6 D6 N6 NT FY HK
              go_wp2_with fail
              refine (cDirty_any T7.out.c (by rw [HQL.out]; omega)).mono ?_
              rintro e w7 ⟨a7, c7, M2, rfl, hrow, hb7, hMp, -⟩
              have HDM := Lib.hid (dirty_mem L1.out G1.out KP.out hMp)
              have T8 := Lib.hid (T7.out.below hb7); have D8 := Lib.hid (D7.out.still (Fr.below hb7)); have N8 := Lib.hid (N7.out.fr (Fr.below (S := fun _ => False) hb7) id); have NT8 := Lib.hid (NT7.out.fr (Fr.below (S := fun _ => False) hb7) id)
              have hml : M2.length ≤ 1000 := by have h1 := hMp.length_eq; have h2 := dirtyK_le Qa Qa.length; rw [List.take_length] at h2; have := HQL.out; omega
              have HR := Lib.hid hrow
              clear hlen2 q3 hb7 hMp T7 D7 N7 NT7 hrow
              go_wp2_with fail
              go_loopw [169] (fun i wy => ∃ t : Nat, t ≤ M2.length ∧ i = .int .i64 t ∧ Below w7.heap.size w7 wy) (fun i _ => M2.length - (intOf i).toNat)
              case atStart => exact ⟨0, Nat.zero_le _, rfl, Below.refl _ _⟩
              case round =>
                obtain ⟨t, ht, rfl, hby⟩ := hrel
                have BY := Lib.hid hby
                clear hby
                by_cases hlt3 : t < M2.length
                · obtain ⟨g, rfl, hgw, hka⟩ := HR.out (by omega)
                  obtain ⟨⟨x1, x2⟩, hxk⟩ : ∃ k, M2[t]? = some k := ⟨_, List.getElem?_eq_getElem hlt3⟩
                  have hky := hka.below (BY.out.block g hka.lt) BY.out.size
                  have d1 : wr.cell? ⟨g, t * 2, none⟩ = some (.int .i64 x1) := hky.c1 t _ hxk
                  have d2 : wr.cell? ⟨g, t * 2 + 1, none⟩ = some (.int .i64 x2) := hky.c2 t _ hxk
                  have m1 : (t : Int) < (M2.length : Int) := by omega
                  have m2 : (0 : Int) ≤ (t : Int) := by omega
                  have hmm := List.mem_of_getElem? hxk
                  have hds := (HDM.out.2.1 (x1, x2)).1 hmm
                  have hkl := HDM.out.2.2 (x1, x2) hmm
                  have hbx := below_alloc BY.out (Nat.le_refl _) (.cells #[.int .i64 x1, .int .i64 x2] 29)
                  obtain ⟨vd, lk⟩ := (D8.out.still (Fr.below hbx)).look2 (x1, x2)
                  have lk2 := (NT8.out.fr (Fr.below (S := fun _ => False) hbx) id).mp.look1 Try.underlying64 (zero_int _) (x1, x2)
                  rw [hds] at lk
                  rw [show onesF (La.map Bf.key) (x1, x2) = some (.int .i64 1) from if_pos hkl] at lk2
                  unfold keyV at lk lk2
                  have HBX := Lib.hid hbx
                  clear hky hka hxk hmm hds hkl hbx
                  go_wp2_with fail
                  go_round
                  case rel => exact ⟨t + 1, by omega, by go_num, HBX.out⟩
                  case measure => simp [intOf]; omega
                · obtain rfl : t = M2.length := by omega
                  have T9 := Lib.hid (T8.out.below BY.out); have D9 := Lib.hid (D8.out.still (Fr.below BY.out)); have N9 := Lib.hid (N8.out.fr (Fr.below (S := fun _ => False) BY.out) id); have NT9 := Lib.hid (NT8.out.fr (Fr.below (S := fun _ => False) BY.out) id)
                  clear T8 D8 N8 NT8 BY HR
                  obtain ⟨fp, ⟨es, clock, E, hmb, heE, -, h3E, hst1, hst2⟩, hfN⟩ := N9.out
                  have hrange := run_range_map (P := Try.prog) wr 64 29 3 pm es clock Try.underlying64 hmb
                  have hval : ∀ e ∈ es.toList, ∃ k : Int × Int, e.key = keyV k ∧ e.val = .int .i64 (Na k) := fun e he => by
                    have h1 : (e.key, e.val) ∈ E.map fun x => (keyV x.1, x.2) := by rw [← heE]; exact List.mem_map.2 ⟨e, he, rfl⟩
                    obtain ⟨x, hx, hxe⟩ := List.mem_map.1 h1
                    obtain ⟨h2, h4⟩ := Prod.mk.inj hxe
                    refine ⟨x.1, h2.symm, ?_⟩
                    have h5 := hfN x.1
                    rw [(h3E x.1 x.2).1 hx] at h5
                    rw [← h4]; exact h5
                  have hplt : pm < wr.heap.size := blk_lt hmb
                  have hri : (wr.alloc (.mapIter (some pm) clock #[] clock)).heap[wr.heap.size]? = some (.mapIter (some pm) clock #[] clock) := by
                    show (wr.heap.push _)[wr.heap.size]? = _
                    simp
                  have hf9 : Fr (fun _ => False) wr (wr.alloc (.mapIter (some pm) clock #[] clock)) := (Fr.refl _ wr).alloc _
                  have HV := Lib.hid hval; have HMB := Lib.hid (hmb); have HS1 := Lib.hid hst1; have HS2 := Lib.hid hst2
                  clear hval hmb heE h3E hst1 hst2 hfN
                  go_wp2_with fail
                  clear hrange
                  have hrF : ¬ Fa wr.heap.size := fun h => by have := T9.out.c.lt _ h; omega
                  have hdlt := D9.out.mp.choose_spec.lt
                  have htlt := NT9.out.mp.lt
                  have hrw : w.heap.size ≤ wr.heap.size := T9.out.bel.size
                  have TI := Lib.hid (T9.out.alloc (.mapIter (some pm) clock #[] clock)); have DI := Lib.hid (D9.out.still hf9); have NI := Lib.hid (N9.out.fr hf9 id); have NTI := Lib.hid (NT9.out.fr hf9 id)
                  have hmI : (wr.alloc (.mapIter (some pm) clock #[] clock)).heap[pm]? = some (.map es clock) := (hf9.block pm hplt id).trans HMB.out
                  have MI := Lib.hid hmI
                  clear hf9 hmI T9 D9 N9 NT9 HMB
                  generalize hwi : wr.alloc (.mapIter (some pm) clock #[] clock) = wi at hri TI DI NI NTI MI ⊢
                  have hrp : pm ≠ wr.heap.size := by omega
                  have hrd : db ≠ wr.heap.size := by omega
                  have hrt : th ≠ wr.heap.size := by omega
                  generalize wr.heap.size = ri at hri hrF hrw hrp hrd hrt ⊢
                  clear hwi hdlt htlt hplt
                  have RI := Lib.hid hri; have hriI := Lib.hid hri
                  clear hri
                  go_loopw [] (fun wy => ∃ seen, wy.heap[ri]? = some (.mapIter (some pm) clock seen clock) ∧ Fr (fun x => x = ri) wi wy) (fun wy => (leftOf es (wy.iterSeen ri)).size)
                  case atStart => exact ⟨_, RI.out, Fr.refl _ _⟩
                  case round =>
                    obtain ⟨seen, hri2, hfi⟩ := hrel
                    have hmb2 : wr.heap[pm]? = some (.map es clock) := (hfi.block pm (blk_lt MI.out) hrp).trans MI.out
                    have hseen : wr.iterSeen ri = seen := by unfold World.iterSeen; rw [hri2]
                    have law := run_next_at (P := Try.prog) wr 0 ri pm clock clock seen es clock hri2 hmb2 HS2.out (Nat.le_refl _)
                    have FI := Lib.hid hfi; have SEEN := Lib.hid hseen
                    clear hfi hseen RI
                    rcases law with ⟨-, hrun⟩ | ⟨e, he, wq, hq, hrun⟩
                    · clear hri2 hmb2
                      go_wp2_with fail
                      go_roundg f
                      case rel => exact ⟨p + 1, by omega, by omega, by go_num, Qa, La, sa, Fa, Da, Na, TI.out.other FI.out hrF hrw, L1.out, ⟨hsa0, hsa1⟩, G1.out, KP.out, DI.out.iter (iter_none hriI.out) hrd FI.out, NI.out.fr FI.out hrp, hFda, hFpa⟩
                      all_goals omega
                    · obtain ⟨hem, hes⟩ := mem_left he
                      obtain ⟨⟨x1, x2⟩, hek, hev⟩ := HV.out e hem
                      have hrl : ri < wr.heap.size := (Array.getElem?_eq_some_iff.1 hri2).1
                      obtain ⟨wN, hwN⟩ : ∃ wN, wN = ChangeMaps.setBlock wq ri (.mapIter (some pm) clock (seen.push e.born) clock) := ⟨_, rfl⟩
                      have hfN : Fr (fun x => x = ri) wr wN := by
                        rw [hwN]
                        rcases hq with rfl | rfl
                        · exact Fr.setB _ _ _
                        · exact (Fr.refl (fun x => x = ri) wr).drew.trans (Fr.setB wr.drew _ _)
                      have hriN : wN.heap[ri]? = some (.mapIter (some pm) clock (seen.push e.born) clock) := by
                        rw [hwN]
                        rcases hq with rfl | rfl
                        · exact setB_at hrl
                        · exact setB_at (w := wr.drew) hrl
                      have hmbN : wN.heap[pm]? = some (.map es clock) := (hfN.block pm (blk_lt hmb2) hrp).trans hmb2
                      have hent := run_entry_at (P := Try.prog) wN ri pm clock seen es clock e hriN hmbN hem HS1.out
                      rw [← hwN] at hrun
                      rw [hek, hev] at hrun hent
                      have hshr := left_shrinks es seen e he
                      have hfx : Fr (fun _ => False) wN (wN.alloc (.cells #[.int .i64 x1, .int .i64 x2] 29)) := (Fr.refl _ wN).alloc _
                      have lk := ((NTI.out.fr (FI.out.trans hfN) hrt).fr hfx id).mp.look1 Try.underlying64 (zero_int _) (x1, x2)
                      have hriX : (wN.alloc (.cells #[.int .i64 x1, .int .i64 x2] 29)).heap[ri]? = some (.mapIter (some pm) clock (seen.push e.born) clock) := (hfx.block ri (Nat.lt_of_lt_of_le hrl hfN.size) id).trans hriN
                      have hsn : (wN.alloc (.cells #[.int .i64 x1, .int .i64 x2] 29)).iterSeen ri = seen.push e.born := by unfold World.iterSeen; rw [hriX]
                      have RX := Lib.hid hriX; have SN := Lib.hid hsn; have FX := Lib.hid (FI.out.trans (hfN.trans (hfx.mono fun _ _ h => h.elim))); have SHR := Lib.hid hshr
                      unfold keyV at hrun hent lk
                      have hbo := KP.out.bound G1.out (x1, x2)
                      have hkin : 0 < Na (x1, x2) → (x1, x2) ∈ La.map Bf.key := fun hp => by
                        by_cases hx : (x1, x2) ∈ La.map Bf.key
                        · exact hx
                        · have := KP.out.n.off (x1, x2) (fun b hb e => hx (by
                            obtain ⟨y, hy, rfl⟩ := List.mem_map.1 hb
                            exact List.mem_map.2 ⟨y, hy, e⟩))
                          omega
                      clear hri2 hmb2 hem hes hek hev he hwN hfN hriN hmbN hshr hfx hriX hsn hq hrl
                      by_cases hpos : 0 < Na (x1, x2)
                      focus
                        have q4 : decide (0 < Na (x1, x2)) = true := decide_eq_true hpos
                        rw [show onesF (La.map Bf.key) (x1, x2) = some (.int .i64 1) from if_pos (hkin hpos)] at lk
                        clear hkin hbo
                        generalize Na (x1, x2) = nk at hrun hent q4 hpos
                        go_wp2_with fail
                      rotate_left
                      focus
                        have q4 : decide (0 < Na (x1, x2)) = false := decide_eq_false hpos
                        clear hkin hbo
                        generalize Na (x1, x2) = nk at hrun hent q4 hpos
                        go_wp2_with fail
                      all_goals
                        go_roundw
                        case rel => exact ⟨_, RX.out, FX.out⟩
                        case measure => rw [SN.out, SEEN.out]; exact SHR.out
    · as_aux_lemma =>
        by_cases hg1 : p < ops.length
        focus
          obtain rfl : p = 80 := by omega
          go_wp2_with fail
        rotate_left
        focus
          obtain rfl : p = ops.length := by omega
          go_wp2_with fail
        all_goals
          clear hgo hg1 hpo
          have hll : L.length ≤ m := by have := G1.out.len; rw [List.length_map] at this; exact this
          have hql : Q.length = L.length := L1.out.perm.length_eq
          have HQL := Lib.hid hql; clear hql
          refine (cDirty_any T.out.c (by rw [HQL.out]; omega)).mono ?_
          rintro e w3 ⟨a3, c3, M, rfl, hrow, hb3, hMp, -⟩
          have HDM := Lib.hid (dirty_mem L1.out G1.out KP.out hMp)
          have hml : M.length ≤ 1000 := by have h1 := hMp.length_eq; have h2 := dirtyK_le Q Q.length; rw [List.take_length] at h2; have := HQL.out; omega
          have hFl := T.out.c.lt
          have TB := Lib.hid (T.out.below hb3); have DB := Lib.hid (DM.out.still (Fr.below hb3))
          have HR := Lib.hid hrow; have HFL := Lib.hid hFl
          clear hrow hb3 hMp hFl T DM NM
          go_wp2_with fail
          go_loopw [206] (fun i wy => ∃ (t : Nat) (Q' L' : List Bf), t ≤ M.length ∧ i = .int .i64 t ∧ One w wy cb m (s + t) Q' F ∧ Lru Q' (s + t) L' ∧ (L'.map Bf.pb).Perm (L.map Bf.pb) ∧ DMap wy F db D ∧ Fr F w3 wy) (fun i _ => M.length - (intOf i).toNat)
          case atStart => exact ⟨0, Q, L, Nat.zero_le _, rfl, by simpa using TB.out, by simpa using L1.out, .refl _, DB.out, Fr.refl _ _⟩
          case round =>
            obtain ⟨t, Q', L', ht, rfl, hT, hL, hP, hD, hF⟩ := hrel
            have TY := Lib.hid hT; have LY := Lib.hid hL; have PY := Lib.hid hP; have DY := Lib.hid hD; have FY := Lib.hid hF
            clear hT hL hP hD hF TB DB
            by_cases hlt : t < M.length
            · obtain ⟨g, rfl, hgw, hka⟩ := HR.out (by omega)
              obtain ⟨⟨x1, x2⟩, hxk⟩ : ∃ k, M[t]? = some k := ⟨_, List.getElem?_eq_getElem hlt⟩
              have hgF : ¬ F g := fun hx => by have := HFL.out g hx; omega
              have hky := hka.below (FY.out.block g hka.lt hgF) FY.out.size
              have d1 : wr.cell? ⟨g, t * 2, none⟩ = some (.int .i64 x1) := hky.c1 t _ hxk
              have d2 : wr.cell? ⟨g, t * 2 + 1, none⟩ = some (.int .i64 x2) := hky.c2 t _ hxk
              have m1 : (t : Int) < (M.length : Int) := by omega
              have m2 : (0 : Int) ≤ (t : Int) := by omega
              have hmm := List.mem_of_getElem? hxk
              have hds := (HDM.out.2.1 (x1, x2)).1 hmm
              obtain ⟨b0, hb0, hbk0⟩ := List.mem_map.1 (HDM.out.2.2 (x1, x2) hmm)
              have hD0 : D (x1, x2) = some b0.data := by
                have h1 := KP.out.d.at_ b0.pb (List.mem_map.2 ⟨b0, hb0, rfl⟩)
                rw [show b0.pb.k = (x1, x2) from hbk0] at h1
                rw [h1] at hds ⊢
                unfold aD at hds ⊢
                cases hd : b0.pb.dirty with
                | true => rw [if_pos rfl]; rfl
                | false => rw [hd] at hds; cases hds
              obtain ⟨b, hb, hbe⟩ := List.mem_map.1 (PY.out.mem_iff.2 (List.mem_map.2 ⟨b0, hb0, rfl⟩))
              obtain ⟨hal, hll2⟩ := G1.out.dat b0.pb (List.mem_map.2 ⟨b0, hb0, rfl⟩)
              clear hky hka hxk hmm hds
              go_wp2_with fail
              have TX0 := TY.out.alloc (.cells #[.int .i64 x1, .int .i64 x2] 29)
              have kx : KeyAt (wr.alloc (.cells #[.int .i64 x1, .int .i64 x2] 29)) F wr.heap.size x1 x2 := KeyAt.new (blk_new rfl) rfl rfl (fun h => by have := TY.out.c.lt _ h; omega)
              have hfx : Fr (fun _ => False) wr (wr.alloc (.cells #[.int .i64 x1, .int .i64 x2] 29)) := (Fr.refl _ wr).alloc _
              have hdx := DY.out.still hfx
              generalize wr.alloc (.cells #[.int .i64 x1, .int .i64 x2] 29) = wx at TX0 kx hfx hdx ⊢
              generalize wr.heap.size = kb at kx ⊢
              obtain ⟨A, B, rfl⟩ := List.append_of_mem hb
              obtain ⟨i, hi⟩ := LY.out.at (b := b) (by simp)
              have hbk : b.key = (x1, x2) := (congrArg Pb.k hbe).trans hbk0
              have hbv : keyV b.key = .agg #[.int .i64 x1, .int .i64 x2] := by rw [hbk]; rfl
              have hdat : b.data = b0.data := congrArg Pb.data hbe
              have hql2 : Q'.length = L.length := by
                have := PY.out.length_eq
                rw [List.length_map, List.length_map] at this
                rw [LY.out.perm.length_eq]; exact this
              have hget := cGet_any TX0.c hi (by omega) (by omega) (by rw [hql2]; omega)
              rw [hbv, hdat] at hget
              refine hget.mono ?_
              rintro e wG ⟨vG, rfl, hown, hcG, hfG⟩
              obtain ⟨gG, cG, rfl, -, hgG, hrG⟩ := bytes_own hown
              have ek : s + (t : Int) + 1 = s + ((t + 1 : Nat) : Int) := by omega
              have TG0 := TX0.same hcG hfG
              have hdG := hdx.step hfG (fun _ h => .inl h) hFd
              have PG := Lib.hid (show ((A ++ B ++ [b.setStamp (s + ((t + 1 : Nat) : Int))]).map Bf.pb).Perm (L.map Bf.pb) by
                refine List.Perm.trans ?_ PY.out
                rw [List.map_append, List.map_append, List.map_append, List.map_cons]
                exact mid_pb _ _ _)
              have LG0 := LY.out.use hi
              rw [ek] at TG0 LG0
              have LG := Lib.hid LG0; have FG := Lib.hid (FY.out.trans ((hfx.mono fun _ _ h => h.elim).trans hfG)); have TG := Lib.hid TG0; have DG := Lib.hid hdG
              obtain ⟨vd, ⟨gd, rfl, z2, z3, z4, z5, z6⟩, lk⟩ := hdG.lookN hD0
              unfold keyV at lk
              have cv1 : ∀ n, (convert 31 9 (.slice (some ⟨gG, 0, none⟩) 64 cG)).run Try.prog (wG.drewN n) = .ok (.string (strD b0.data)) (wG.drewN n) := fun n => conv_row (w := wG.drewN n) hal hll2 hrG cG
              have cv2 : ∀ n, (convert 31 9 (.slice (some ⟨gd, 0, none⟩) 64 64)).run Try.prog (wG.drewN n) = .ok (.string (strD b0.data)) (wG.drewN n) := fun n => conv_row (w := wG.drewN n) z3 z2 z6 64
              obtain ⟨y1, y2⟩ := (kx.same hfG).c
              generalize strD b0.data = sd at cv1 cv2
              clear TX0 kx hfx hdx hb hi hbk hbv hdat hql2 hget hown hcG hfG hrG TG0 hdG LG0 hal hll2 hbe ek d1 d2 m1 m2 TY LY PY DY FY z2 z3 z4 z5 z6 hD0
              go_wp2_with fail
              go_quiet (fail)
              go_wp2_with fail
              go_round
              case rel => exact ⟨t + 1, _, _, by omega, by go_num, TG.out.drewN _, LG.out, PG.out, DG.out.still (Fr.of_drewN rfl), FG.out.drewN _⟩
              case measure => simp [intOf]; omega
            · obtain rfl : t = M.length := by omega
              go_wp2_with fail
              go_ret
              exact ⟨rfl, TY.out.bel⟩
end Go.Proofs.Ytjldocpjoiibjaa
