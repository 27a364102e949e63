/- Walk of the statement CacheLast of chapter 9: it returns true. -/
import Derived.Test.YtjldocpjoiibjaaC40
import Derived.Test.YtjldocpjoiibjaaCOps
import Derived.Deep.RegionHeld3
import Derived.Deep.RegionLaw
namespace Go.Proofs.Ytjldocpjoiibjaa
open Go.RowKit

theorem One.other {W w w' : World} {cb mb : Nat} {m s : Int} {Q : List Bf} {F : Nat → Prop} (T : One W w cb m s Q F) (hf : Fr (fun x => x = mb) w w') (hF : ¬ F mb) (hl : W.heap.size ≤ mb) : One W w' cb m s Q F :=
  ⟨T.c.frame hf (fun x hx e => hF (by rw [← show x = mb from e]; exact hx)), T.low, T.bel.trans (hf.toBelow (B := W.heap.size) T.bel.size fun x hx => by rw [show x = mb from hx]; exact hl)⟩
theorem zero_str (w : World) : (zeroValue 9).run Try.prog w = .ok (.string ⟨#[]⟩) w := (zero_of_info (P := Try.prog) (t := 9) (v := .string ⟨#[]⟩) (n := 1) (by kernel_rfl)).1 w

set_option maxHeartbeats 4000000 in
set_option maxRecDepth 100000 in
theorem lawLast_any (r : Int) (v : Value) (ops : List (Opr × Value)) (w : World) (hv : OpsAt w.heap.size w v ops) :
    Calls Try.prog 5 #[.int .i64 r, v] w fun e w' => e = .returned (.bool true) ∧ Below w.heap.size w w' := by
  obtain ⟨av, cv, rfl, hops⟩ := hv
  obtain ⟨m, hm0, hm1, hmw⟩ : ∃ m : Nat, 0 < m ∧ m ≤ 8 ∧ RowKit.wrap64 (RowKit.wrap64 ((IntKind.u64.wrap r).tmod 8) + 1) = (m : Int) := by
    have h0 : 0 ≤ IntKind.u64.wrap r := by simp only [IntKind.wrap, IntKind.signed, IntKind.bits]; simp; omega
    refine ⟨(IntKind.u64.wrap r % 8).toNat + 1, by omega, by omega, ?_⟩
    rw [Int.tmod_eq_emod_of_nonneg h0]
    unfold RowKit.wrap64; omega
  have HM := Lib.hid hmw; clear hmw
  have HO := Lib.hid hops; clear hops
  have HN := Lib.hid (fun w => cNew_any (room := (m : Int)) (by omega) (by omega) w)
  go_enter Try.func5, Try.ntmps5
  go_wp2_with fail
  refine (awake_any _).mono ?_
  rintro e w1 ⟨rfl, hb1⟩
  go_wp2_with fail
  rw [HM.out]
  refine (HN.out _).mono ?_
  rintro e w2 ⟨cb, rfl, hc2, hb2⟩
  have T0 := Lib.hid (One.mk (W := w) hc2 (fun x h => Nat.le_trans hb1.size h.1) (below_call hb1 hb2 (Nat.le_refl _)))
  clear hc2 hb2 hb1 HN
  have mm := fun w => run_makeMap (P := Try.prog) 43 w
  go_wp2_with fail
  have hM0 := Mp.new (w2.alloc (.map #[] 0)) w2.heap.size (blk_new rfl)
  obtain ⟨F0, hT0, hF0⟩ : ∃ F0, One w w2 cb m 0 [] F0 ∧ ¬ F0 w2.heap.size := ⟨_, T0.out, fun h => by have := T0.out.c.lt _ h; omega⟩
  have hT1 := hT0.alloc (.map #[] 0)
  have hl0 : w.heap.size ≤ w2.heap.size := T0.out.bel.size
  generalize w2.alloc (.map #[] 0) = wM at hM0 hT1 ⊢
  generalize w2.heap.size = mb at hM0 hF0 hl0 ⊢
  have M0 := Lib.hid hM0; have T1 := Lib.hid hT1
  clear mm hM0 hT1 hT0 T0
  go_loopw [8] (fun i wr => ∃ (p : Nat) (Q L : List Bf) (s : Int) (F : Nat → Prop) (f : Int × Int → Option Value), p ≤ 80 ∧ p ≤ ops.length ∧ i = .int .i64 p ∧ One w wr cb m s Q F ∧ Lru Q s L ∧ 0 ≤ s ∧ s ≤ p ∧ Good m p (L.map Bf.pb) ∧ Last f (L.map Bf.pb) ∧ Mp wr mb f ∧ ¬ F mb) (fun i _ => ops.length - (intOf i).toNat)
  case atStart => exact ⟨0, [], [], 0, _, _, by omega, Nat.zero_le _, rfl, T1.out, Lru.nil, by omega, by omega, ⟨by simp, by simp, by simp, by simp⟩, fun b hb => (by cases hb), M0.out, hF0⟩
  case round =>
    obtain ⟨p, Q, L, s, F, f, hp8, hpo, rfl, hT, hL, hs0, hs1, hG, hLa, hMp, hFm⟩ := hrel
    have T := Lib.hid hT; have L1 := Lib.hid hL; have G1 := Lib.hid hG; have LA := Lib.hid hLa; have MP := Lib.hid hMp
    clear hT hL hG hLa hMp M0 T1 hF0
    by_cases hgo : p < ops.length ∧ p < 80
    · obtain ⟨hg1, hg2⟩ := hgo
      obtain ⟨ga, oa, rfl, hga, hat⟩ := HO.out (by omega)
      obtain ⟨⟨op, dv⟩, hx⟩ : ∃ x, ops[p]? = some x := ⟨_, List.getElem?_eq_getElem hg1⟩
      obtain ⟨c0, c1, c2, c3, c4, c5, hdat⟩ := (hat p _ hx).below hga T.out.bel
      obtain ⟨ad, cd, hdv⟩ := hdat.shape
      obtain rfl : dv = .slice ad op.data.length cd := hdv
      obtain ⟨kind, ⟨k1, k2⟩, ys, raw, dirty⟩ := op
      simp only at c0 c1 c2 c3 c4 c5
      have DA := Lib.hid hdat
      clear hat hx hdat
      by_cases hbig : 200 < ys.length
      focus
        go_wp2_with fail
        go_round
        case rel => exact ⟨p + 1, Q, L, s, F, f, by omega, by omega, by go_num, T.out.alloc _, L1.out, hs0, by omega, G1.out.more, LA.out, MP.out.fr ((Fr.refl (fun _ => False) wr).alloc _) id, hFm⟩
        case measure => simp [intOf]; omega
      have hkb : wr.heap.size < (wr.alloc (.cells #[.int .i64 kind, .int .i64 k1, .int .i64 k2, .slice ad ys.length cd, .bool false, .bool dirty] 45)).heap.size := by simp
      have hkF : ¬ F wr.heap.size := fun h => by have := T.out.c.lt _ h; omega
      have hmlt := MP.out.lt
      have TX0 := T.out.alloc (.cells #[.int .i64 kind, .int .i64 k1, .int .i64 k2, .slice ad ys.length cd, .bool false, .bool dirty] 45)
      have hfx : Fr (fun _ => False) wr (wr.alloc (.cells #[.int .i64 kind, .int .i64 k1, .int .i64 k2, .slice ad ys.length cd, .bool false, .bool dirty] 45)) := (Fr.refl _ wr).alloc _
      have hbx := opBox_new wr ⟨kind, (k1, k2), ys, false, dirty⟩ (.slice ad ys.length cd)
      unfold opCells at hbx
      have hpl := play_any (o := ⟨kind, (k1, k2), ys, false, dirty⟩) (v := .slice ad ys.length cd) (B := w.heap.size) TX0.c L1.out hs0 (by omega) (by have := G1.out.len; rw [List.length_map] at this; exact this) (by omega)
        (fun b hb => by have := G1.out.pins b.pb (List.mem_map.2 ⟨b, hb, rfl⟩); have h1 := this.1; have h2 := this.2; exact ⟨h1, Int.le_trans h2 (by omega)⟩)
        (DA.out.fr hfx (fun _ h => h.elim) T.out.bel.size) TX0.bel.size (by show ys.length ≤ 1000; omega)
      have hmx := MP.out.fr hfx id
      have PL := Lib.hid hpl; have TX := Lib.hid TX0; have BX := Lib.hid hbx; have MX := Lib.hid hmx
      have DX := Lib.hid (DA.out.fr hfx (fun _ h => h.elim) T.out.bel.size)
      clear hpl TX0 hfx hbx hmx DA
      go_wp2_with fail
      refine PL.out.mono ?_
      rintro e w3 ⟨er, bv, res, rfl, ⟨Q2, s2, F2, L2, hc2, hl2, h3, h4, hf2, hF2, hst⟩, hr⟩
      have T2 := Lib.hid (TX.out.step hc2 hf2 hF2)
      have D3 := Lib.hid (DX.out.fr hf2 TX.out.low TX.out.bel.size)
      have hbx2 := BX.out.same (hf2.block _ hkb hkF)
      have hm2 := MX.out.fr hf2 hFm
      have hFm2 : ¬ F2 mb := fun h => by
        rcases hF2 mb h with h | h
        · exact hFm h
        · omega
      have hg2' := hst.good G1.out
      have L2' := Lib.hid hl2; have G2 := Lib.hid hg2'; have BX2 := Lib.hid hbx2; have M2 := Lib.hid hm2; have ST := Lib.hid hst; have RS := Lib.hid hr
      have hkb3 : wr.heap.size < w3.heap.size := blk_of_cell hbx2.c0
      have hs2 : 0 ≤ s2 := by omega
      have hs3 : s2 ≤ ((p + 1 : Nat) : Int) := by omega
      generalize wr.heap.size = kb at BX2 hkb3 ⊢
      clear hc2 hl2 hf2 hF2 hst hr hbx2 hm2 hg2' PL TX BX MX DX T L1 hmlt hkF hkb c0 c1 c2 c3 c4 c5
      obtain ⟨e0, e1, e2, e3, e4, e5⟩ := BX2.out
      simp only at e0 e1 e2 e3 e4 e5
      by_cases hk1 : kind = 1
      · subst hk1
        by_cases her : er = 0
        · subst her
          go_wp2_with fail
          have LB := Lib.hid (step_put ST.out G1.out LA.out rfl rfl)
          have TD := Lib.hid T2.out.drew
          have MD := Lib.hid (M2.out.fr (Fr.refl (fun _ => False) w3).drew id)
          have DD := Lib.hid (D3.out.fr (Fr.refl (fun _ => False) w3).drew (fun _ h => h.elim) T2.out.bel.size)
          have d1 : w3.drew.cell? ⟨kb, 1, none⟩ = some (.int .i64 k1) := e1
          have d2 : w3.drew.cell? ⟨kb, 2, none⟩ = some (.int .i64 k2) := e2
          have d3 : w3.drew.cell? ⟨kb, 3, none⟩ = some (.slice ad ys.length cd) := e3
          have hkd : kb < w3.drew.heap.size := hkb3
          generalize hwd : w3.drew = wd at TD MD DD d1 d2 d3 hkd
          clear e0 e1 e2 e3 e4 e5 T2 M2 D3
          first
            | go_region_law
              (first
                | (go_simp; go_at_call 11
                   refine (bytes_of DD.out TD.out.bel.size (by omega)).mono ?_
                   rintro e wB ⟨gB, rfl, hg1', hg2', hbB, hdB⟩
                   have TB := Lib.hid (TD.out.below hbB)
                   have hMB := MD.out.fr (Fr.below (S := fun _ => False) hbB) id
                   have cv1 := conv_row (pat_allB ys) (pat_len ys) hdB 64
                   have b1 := (World.cell?_of_block (w := wd) (a := ⟨kb, 1, none⟩) (hbB.block kb hkd)).trans d1
                   have b2 := (World.cell?_of_block (w := wd) (a := ⟨kb, 2, none⟩) (hbB.block kb hkd)).trans d2
                   obtain ⟨ob, hup, hMC⟩ := hMB.put Try.underlying43 (k1, k2) (.string (strD (pat ys)))
                   have hfC := Fr.setB wB mb ob
                   unfold keyV at hup
                   generalize hwc : setB wB mb ob = wC at hup hMC hfC
                   have TC := Lib.hid (TB.out.other hfC hFm2 hl0); have MC := Lib.hid hMC
                   clear hg1' hg2' hbB hdB hMB hMC hfC
                   dsimp only))
            | fail
          all_goals
            clear cv1 b1 b2 hup hwc TD MD DD d1 d2 d3 hkd BX2 RS ST
            go_wp2_with fail
            go_round
            case rel => exact ⟨p + 1, Q2, L2, s2, F2, _, by omega, by omega, by go_num, TC.out, L2'.out, hs2, hs3, G2.out, LB.out, MC.out, hFm2⟩
            case measure => simp [intOf]; omega
        · have q1 : (er == 0) = false := beq_eq_false_iff_ne.2 her
          have LB := Lib.hid (step_keep ST.out LA.out (.inr her))
          go_wp2_with fail
          go_round
          case rel => exact ⟨p + 1, Q2, L2, s2, F2, f, by omega, by omega, by go_num, T2.out, L2'.out, hs2, hs3, G2.out, LB.out, M2.out, hFm2⟩
          case measure => simp [intOf]; omega
      · have q1 : (kind == 1) = false := beq_eq_false_iff_ne.2 hk1
        have LB := Lib.hid (step_keep ST.out LA.out (.inl hk1))
        cases res with
        | none =>
          by_cases hk2 : kind = 2
          focus
            subst hk2
            go_wp2_with fail
          rotate_left
          focus
            have q2 : (kind == 2) = false := beq_eq_false_iff_ne.2 hk2
            go_wp2_with fail
          all_goals
            go_round
            case rel => exact ⟨p + 1, Q2, L2, s2, F2, f, by omega, by omega, by go_num, T2.out, L2'.out, hs2, hs3, G2.out, LB.out, M2.out, hFm2⟩
            case measure => simp [intOf]; omega
        | some l =>
          obtain ⟨hk2, her, hfl, hal⟩ := step_got ST.out G1.out LA.out
          obtain rfl : kind = 2 := hk2
          obtain ⟨hown, hll⟩ := RS.out
          obtain ⟨gb, cb2, rfl, -, -, hrow⟩ := bytes_own hown
          have lk := M2.out.look2 Try.underlying43 (zero_str w3) (k1, k2)
          rw [show f (k1, k2) = _ from hfl] at lk
          unfold keyV at lk
          have cv1 := conv_row hal hll hrow cb2
          clear hown hrow hfl hal hll
          go_wp2_with fail
          go_round
          case rel => exact ⟨p + 1, Q2, L2, s2, F2, f, by omega, by omega, by go_num, T2.out, L2'.out, hs2, hs3, G2.out, LB.out, M2.out, hFm2⟩
          case measure => simp [intOf]; omega
    · by_cases hg1 : p < ops.length
      focus
        obtain rfl : p = 80 := by omega
        go_wp2_with fail
      rotate_left
      focus
        obtain rfl : p = ops.length := by omega
        go_wp2_with fail
      all_goals
        clear hgo hg1 hpo
        have hll : L.length ≤ m := by have := G1.out.len; rw [List.length_map] at this; exact this
        refine (cOrder_any T.out.c L1.out (by rw [L1.out.perm.length_eq]; omega)).mono ?_
        rintro e w3 ⟨v3, rfl, hown, hb3⟩
        obtain ⟨a3, c3, hsh⟩ := own_shape hown
        subst hsh
        have hks : 0 < L.length → ∃ g, a3 = some ⟨g, 0, none⟩ ∧ KeysAt w3 g (L.map Bf.key) ∧ ¬ F g := fun h0 => by
          obtain ⟨g, c, he, hgg, hka, _⟩ := keys_own hown h0
          obtain ⟨h1, _⟩ := Value.slice.inj he
          exact ⟨g, h1, hka, fun hF => by have := T.out.c.lt g hF; omega⟩
        have TB := Lib.hid (T.out.below hb3)
        have MB := Lib.hid (MP.out.fr (Fr.below (S := fun _ => False) hb3) id)
        have HK := Lib.hid hks
        clear hks hown hb3 T MP
        go_wp2_with fail
        go_loopw [105] (fun i wy => ∃ (t : Nat) (Q' L' : List Bf), t ≤ L.length ∧ i = .int .i64 t ∧ One w wy cb m (s + t) Q' F ∧ Lru Q' (s + t) L' ∧ (L'.map Bf.pb).Perm (L.map Bf.pb) ∧ Mp wy mb f ∧ Fr F w3 wy) (fun i _ => L.length - (intOf i).toNat)
        case atStart => exact ⟨0, Q, L, Nat.zero_le _, rfl, by simpa using TB.out, by simpa using L1.out, .refl _, MB.out, Fr.refl _ _⟩
        case round =>
          obtain ⟨t, Q', L', ht, rfl, hT, hL, hP, hM, hF⟩ := hrel
          have TY := Lib.hid hT; have LY := Lib.hid hL; have PY := Lib.hid hP; have MY := Lib.hid hM; have FY := Lib.hid hF
          clear hT hL hP hM hF TB MB
          by_cases hlt : t < L.length
          · obtain ⟨g, rfl, hka, hnF⟩ := HK.out (by omega)
            obtain ⟨b0, hb0⟩ : ∃ b, L[t]? = some b := ⟨_, List.getElem?_eq_getElem hlt⟩
            have hmk : (L.map Bf.key)[t]? = some (b0.k1, b0.k2) := by rw [List.getElem?_map, hb0]; rfl
            have hky := hka.below (FY.out.block g hka.lt hnF) FY.out.size
            have d1 : wr.cell? ⟨g, t * 2, none⟩ = some (.int .i64 b0.k1) := hky.c1 t _ hmk
            have d2 : wr.cell? ⟨g, t * 2 + 1, none⟩ = some (.int .i64 b0.k2) := hky.c2 t _ hmk
            have m1 : (t : Int) < (L.length : Int) := by omega
            have m2 : (0 : Int) ≤ (t : Int) := by omega
            have hfl := LA.out b0.pb (List.mem_map.2 ⟨b0, List.mem_of_getElem? hb0, rfl⟩)
            obtain ⟨b, hb, hbe⟩ := List.mem_map.1 (PY.out.mem_iff.2 (List.mem_map.2 ⟨b0, List.mem_of_getElem? hb0, rfl⟩))
            obtain ⟨hal, hll2⟩ := G1.out.dat b0.pb (List.mem_map.2 ⟨b0, List.mem_of_getElem? hb0, rfl⟩)
            clear hky hmk hka hb0
            go_wp2_with fail
            have TX0 := TY.out.alloc (.cells #[.int .i64 b0.k1, .int .i64 b0.k2] 29)
            have kx : KeyAt (wr.alloc (.cells #[.int .i64 b0.k1, .int .i64 b0.k2] 29)) F wr.heap.size b0.k1 b0.k2 := KeyAt.new (blk_new rfl) rfl rfl (fun h => by have := TY.out.c.lt _ h; omega)
            have hfx : Fr (fun _ => False) wr (wr.alloc (.cells #[.int .i64 b0.k1, .int .i64 b0.k2] 29)) := (Fr.refl _ wr).alloc _
            have hmx := MY.out.fr hfx id
            generalize wr.alloc (.cells #[.int .i64 b0.k1, .int .i64 b0.k2] 29) = wx at TX0 kx hfx hmx ⊢
            generalize wr.heap.size = kb at kx ⊢
            obtain ⟨A, B, rfl⟩ := List.append_of_mem hb
            obtain ⟨i, hi⟩ := LY.out.at (b := b) (by simp)
            have hbk : b.key = (b0.k1, b0.k2) := congrArg Pb.k hbe
            have hbv : keyV b.key = .agg #[.int .i64 b0.k1, .int .i64 b0.k2] := by rw [hbk]; rfl
            have hdat : b.data = b0.pb.data := congrArg Pb.data hbe
            have hql : Q'.length = L.length := by
              have := PY.out.length_eq
              rw [List.length_map, List.length_map] at this
              rw [LY.out.perm.length_eq]; exact this
            have hget := cGet_any TX0.c hi (by omega) (by omega) (by rw [hql]; omega)
            rw [hbv, hdat] at hget
            refine hget.mono ?_
            rintro e wG ⟨vG, rfl, hown, hcG, hfG⟩
            obtain ⟨gG, cG, rfl, -, hgG, hrG⟩ := bytes_own hown
            have ek : s + (t : Int) + 1 = s + ((t + 1 : Nat) : Int) := by omega
            have TG0 := TX0.same hcG hfG
            have hmG := hmx.fr hfG hFm
            have PG := Lib.hid (show ((A ++ B ++ [b.setStamp (s + ((t + 1 : Nat) : Int))]).map Bf.pb).Perm (L.map Bf.pb) by
              refine List.Perm.trans ?_ PY.out
              rw [List.map_append, List.map_append, List.map_append, List.map_cons]
              exact mid_pb _ _ _)
            have LG0 := LY.out.use hi
            rw [ek] at TG0 LG0
            have TG := Lib.hid TG0; have LG := Lib.hid LG0; have MG := Lib.hid hmG; have FG := Lib.hid (FY.out.trans ((hfx.mono fun _ _ h => h.elim).trans hfG))
            have lk := hmG.look2 Try.underlying43 (zero_str wG) (b0.k1, b0.k2)
            rw [show f (b0.k1, b0.k2) = _ from hfl] at lk
            unfold keyV at lk
            have cv1 := conv_row hal hll2 hrG cG
            obtain ⟨z1, z2⟩ := (kx.same hfG).c
            clear TX0 kx hfx hmx hb hi hbk hbv hdat hql hget hown hcG hfG hrG TG0 hmG LG0 hfl hal hll2 hbe ek d1 d2 m1 m2 TY LY PY MY FY
            go_wp2_with fail
            go_round
            case rel => exact ⟨t + 1, _, _, by omega, by go_num, TG.out, LG.out, PG.out, MG.out, FG.out⟩
            case measure => simp [intOf]; omega
          · obtain rfl : t = L.length := by omega
            go_wp2_with fail
            go_ret
            exact ⟨rfl, TY.out.bel⟩
end Go.Proofs.Ytjldocpjoiibjaa
