/- Walk of the statement CacheRow of chapter 9: it returns true. -/
import Derived.Test.YtjldocpjoiibjaaC28
import Derived.Test.YtjldocpjoiibjaaC19
import Derived.Deep.RegionHeld3
import Derived.Deep.RegionLaw
namespace Go.Proofs.Ytjldocpjoiibjaa
open Go.RowKit

set_option maxHeartbeats 4000000 in
set_option maxRecDepth 100000 in
theorem lawRow_any (r n0 : Int) (v2 : Value) (xs : List Int) (w : World) (hxl : xs.length ≤ 1000000000000000000) (hv : ∃ a c, v2 = .slice a xs.length c ∧ (0 < xs.length → ∃ g o, a = some ⟨g, o, none⟩ ∧ g < w.heap.size ∧ ∀ i, i < xs.length → w.cell? ⟨g, o + i, none⟩ = some (.int .i64 (xs.getD i 0)))) :
    Calls Try.prog 4 #[.int .i64 r, .int .i64 n0, v2] w fun e w' => e = .returned (.bool true) ∧ Below w.heap.size w w' := by
  obtain ⟨av, cv, rfl, hxs⟩ := hv
  obtain ⟨m, hm0, hm1, hmw⟩ : ∃ m : Nat, 0 < m ∧ m ≤ 20 ∧ RowKit.wrap64 (RowKit.wrap64 ((IntKind.u64.wrap r).tmod 20) + 1) = (m : Int) := by
    have h0 : 0 ≤ IntKind.u64.wrap r := by simp only [IntKind.wrap, IntKind.signed, IntKind.bits]; simp; omega
    refine ⟨(IntKind.u64.wrap r % 20).toNat + 1, by omega, by omega, ?_⟩
    rw [Int.tmod_eq_emod_of_nonneg h0]
    unfold RowKit.wrap64; omega
  obtain ⟨n, hn1, hnw⟩ : ∃ n : Nat, n < 60 ∧ RowKit.wrap64 ((IntKind.u64.wrap n0).tmod 60) = (n : Int) := by
    have h0 : 0 ≤ IntKind.u64.wrap n0 := by simp only [IntKind.wrap, IntKind.signed, IntKind.bits]; simp; omega
    refine ⟨(IntKind.u64.wrap n0 % 60).toNat, by omega, ?_⟩
    rw [Int.tmod_eq_emod_of_nonneg h0]
    unfold RowKit.wrap64; omega
  have HM := Lib.hid hmw; have HNW := Lib.hid hnw; clear hmw hnw
  have HXS := Lib.hid hxs; clear hxs
  have HN := Lib.hid (fun w => cNew_any (room := (m : Int)) (by omega) (by omega) w)
  go_enter Try.func4, Try.ntmps4
  go_wp2_with fail
  refine (awake_any _).mono ?_
  rintro e w1 ⟨rfl, hb1⟩
  go_wp2_with fail
  rw [HM.out, HNW.out]
  refine (HN.out _).mono ?_
  rintro e w2 ⟨cb, rfl, hc2, hb2⟩
  have T0 := Lib.hid (One.mk (W := w) hc2 (fun x h => Nat.le_trans hb1.size h.1) (below_call hb1 hb2 (Nat.le_refl _)))
  clear hc2 hb2 hb1 HN
  go_wp2_with fail
  go_loopw [9] (fun i wr => ∃ (k lo : Nat) (Q L : List Bf) (F : Nat → Prop), k ≤ n ∧ i = .int .i64 k ∧ One w wr cb m k Q F ∧ Lru Q k L ∧ RowL L lo k ∧ ((k ≤ m ∧ lo = 0) ∨ (m < k ∧ lo + m = k))) (fun i _ => n - (intOf i).toNat)
  case atStart => exact ⟨0, 0, [], [], _, Nat.zero_le _, rfl, T0.out, Lru.nil, RowL.nil, .inl ⟨Nat.zero_le _, rfl⟩⟩
  case round =>
    obtain ⟨k, lo, Q, L, F, hk, rfl, T, hlru, hrow, hlo⟩ := hrel
    have HT := Lib.hid T; have HL := Lib.hid hlru; have HR := Lib.hid hrow
    clear T hlru hrow T0
    by_cases hlt : k < n
    · have u8 : IntKind.u8.wrap (k : Int) = (k : Int) := by simp only [IntKind.wrap, IntKind.signed, IntKind.bits]; simp; omega
      have hqlen : Q.length = k - lo := by rw [HL.out.perm.length_eq]; exact HR.out.len
      have HQL := Lib.hid hqlen; clear hqlen
      go_wp2_with fail
      have TA0 := HT.out.alloc (.cells #[.int .u8 (k : Int), .int .u8 1] 5)
      refine (bytes_any (xs := [(k : Int), 1]) (o := 0) (by simp) (by simp) (fun j hj => ?_) (by simp)).mono ?_
      · rw [Nat.zero_add]
        match j, hj with
        | 0, _ => exact cell_blk_some (blk_new rfl) rfl
        | 1, _ => exact cell_blk_some (blk_new rfl) rfl
        | j + 2, hj => have : j + 2 < 2 := hj; omega
      rintro e wA ⟨g, rfl, hg1, hg2, hbA, hdA⟩
      have TA := Lib.hid (TA0.below hbA)
      have DA := Lib.hid (dataNew (pat_len _) (pat_one _) hdA TA0.c.lt hg1 hg2)
      clear hg1 hg2 hbA hdA TA0 HT
      go_wp2_with fail
      by_cases hf : k < m
      · have hlo0 : lo = 0 := by omega
        refine (put_new (k := (7, (k : Int))) TA.out.c (HR.out.fresh HL.out.perm) (by rw [HQL.out]; omega) DA.out (by omega) (by omega) (by rw [HQL.out]; omega)).mono ?_
        rintro e wB ⟨nb, n1, hnb, hn1, rfl, hcB, hfB⟩
        have TB := Lib.hid (TA.out.step hcB hfB Fx_old)
        have LB := Lib.hid (HL.out.push (l := pat [(k : Int), 1]) (d := false) (by omega) hn1)
        have RB := Lib.hid (HR.out.push (x := (((newB nb (7, (k : Int))).put (pat [(k : Int), 1]) false).setStamp ((k : Int) + 1))) rfl rfl rfl rfl)
        clear hcB hfB hn1 hnb TA DA HL HR HQL
        go_wp2_with fail
        go_round
        case rel => exact ⟨k + 1, lo, _, _, _, by omega, by go_num, TB.out, LB.out, RB.out, .inl ⟨by omega, hlo0⟩⟩
        case measure => simp [intOf]; omega
      · have hlom : lo + m = k := by omega
        cases L with
        | nil =>
          have := HR.out.len
          simp at this
          omega
        | cons x B =>
          have hev := Lru.evict (A := []) HL.out (fun _ h => by cases h) (by obtain ⟨t, _, _, _, _, h⟩ := HR.out.keys x List.mem_cons_self; exact h)
          refine (put_evict (k := (7, (k : Int))) TA.out.c (HR.out.fresh HL.out.perm) (by rw [HQL.out]; omega) (by rw [hev.1]; rfl) DA.out (by omega) (by omega) (by rw [HQL.out]; omega)).mono ?_
          rintro e wB ⟨nb, n1, hnb, hn1, rfl, hcB, hfB⟩
          have TB := Lib.hid (TA.out.step hcB hfB Fx_old)
          have LB := Lib.hid (Lru.push (L := B) (l := pat [(k : Int), 1]) (d := false) hev.2 (by omega) hn1)
          have RB := Lib.hid (HR.out.tail.push (x := (((newB nb (7, (k : Int))).put (pat [(k : Int), 1]) false).setStamp ((k : Int) + 1))) rfl rfl rfl rfl)
          clear hcB hfB hn1 hnb TA DA HL HR HQL hev
          go_wp2_with fail
          go_round
          case rel => exact ⟨k + 1, lo + 1, _, _, _, by omega, by go_num, TB.out, LB.out, RB.out, .inr ⟨by omega, by omega⟩⟩
          case measure => simp [intOf]; omega
    · obtain rfl : k = n := by omega
      have hlen : L.length = min m k := by rw [HR.out.len]; omega
      go_wp2_with fail
      refine (cOrder_any HT.out.c HL.out (by rw [HL.out.perm.length_eq, hlen]; omega)).mono ?_
      rintro e w3 ⟨v3, rfl, hown, hb3⟩
      obtain ⟨a3, c3, hsh⟩ := own_shape hown
      subst hsh
      have TB := Lib.hid (HT.out.below hb3)
      have HF := Lib.hid HT.out.c.lt
      have HO := Lib.hid hown; have HLEN := Lib.hid hlen
      have q1 : ((L.length : Int) != min (m : Int) (k : Int)) = false := by rw [hlen]; simp; omega
      clear hown hb3 HT hlen
      go_wp2_with fail
      have hks : 0 < L.length → ∃ g, a3 = some ⟨g, 0, none⟩ ∧ KeysAt w3 g (L.map Bf.key) ∧ ¬ F g := fun h0 => by
        obtain ⟨g, c, he, hgg, hka, _⟩ := keys_own HO.out h0
        obtain ⟨h1, _⟩ := Value.slice.inj he
        exact ⟨g, h1, hka, fun hF => by have := HF.out g hF; omega⟩
      have HK := Lib.hid hks; clear hks HO HF
      have hll : (k : Int) - (L.length : Int) = (lo : Int) := by rw [HLEN.out]; omega
      have HLL := Lib.hid hll; clear hll
      have hlb : L.length ≤ 20 := by rw [HLEN.out]; omega
      go_loopw [66] (fun i wy => ∃ t : Nat, t ≤ L.length ∧ i = .int .i64 t ∧ One w wy cb m k Q F ∧ Below w3.heap.size w3 wy) (fun i _ => L.length - (intOf i).toNat)
      case atStart => exact ⟨0, Nat.zero_le _, rfl, TB.out, Below.refl _ _⟩
      case round =>
        obtain ⟨t, ht, rfl, T, hbel⟩ := hrel
        have TY := Lib.hid T; have HBL := Lib.hid hbel
        clear T hbel TB
        by_cases hlt2 : t < L.length
        · obtain ⟨g, rfl, hka, hnF⟩ := HK.out (by omega)
          obtain ⟨b, hb⟩ : ∃ b, L[t]? = some b := ⟨_, List.getElem?_eq_getElem hlt2⟩
          obtain ⟨hk1, -, -, -⟩ := HR.out.row t b hb
          have hmk : (L.map Bf.key)[t]? = some (7, ((lo + t : Nat) : Int)) := by rw [List.getElem?_map, hb, ← hk1]; rfl
          have hky := hka.below (HBL.out.block g hka.lt) HBL.out.size
          have d1 : wr.cell? ⟨g, t * 2, none⟩ = some (.int .i64 7) := hky.c1 t _ hmk
          have d2 : wr.cell? ⟨g, t * 2 + 1, none⟩ = some (.int .i64 ((lo : Int) + (t : Int))) := by have := hky.c2 t _ hmk; rw [this]; rfl
          have m1 : (t : Int) < (L.length : Int) := by omega
          have m2 : (0 : Int) ≤ (t : Int) := by omega
          have hle := HR.out.le
          have hln := HR.out.len
          have s1 : IntKind.i64.wrap ((k : Int) - (L.length : Int)) = (lo : Int) := by rw [HLL.out]; exact IntWalk.i64_in _ (by omega)
          have s2 : IntKind.i64.wrap ((lo : Int) + (t : Int)) = (lo : Int) + (t : Int) := IntWalk.i64_in _ (by omega)
          clear hky hka hmk hk1 hb hle hln
          go_wp2_with fail
          go_round
          case rel => exact ⟨t + 1, by omega, by go_num, TY.out.alloc _, below_alloc HBL.out (Nat.le_refl _) _⟩
          case measure => simp [intOf]; omega
        · obtain rfl : t = L.length := by omega
          have HU := Lib.hid (HR.out.used (by omega))
          go_wp2_with fail
          go_loopw [13, 83] (fun z i wy => ∃ (p : Nat) (z' : Int) (Q' L' : List Bf), p ≤ xs.length ∧ z = .int .i64 z' ∧ i = .int .i64 p ∧ One w wy cb m (k + p) Q' F ∧ Lru Q' (k + p) L' ∧ UsedL L' lo L.length ∧ LastK L' z' ∧ Fr F w3 wy) (fun z i _ => xs.length - (intOf i).toNat)
          case atStart => exact ⟨0, -1, Q, L, Nat.zero_le _, rfl, rfl, by simpa using TY.out, by simpa using HL.out, HU.out, .inl rfl, Fr.below HBL.out⟩
          case round =>
            obtain ⟨p, z, Q', L', hp, rfl, rfl, T', hlru', hu', hz', hbel'⟩ := hrel
            have TZ := Lib.hid T'; have LZ := Lib.hid hlru'; have UZ := Lib.hid hu'; have ZZ := Lib.hid hz'; have BZ := Lib.hid hbel'
            clear T' hlru' hu' hz' hbel' TY HL HU HBL
            by_cases hgo : p < xs.length ∧ 0 < L.length
            · obtain ⟨hp1, hL0⟩ := hgo
              obtain ⟨ga, oa, rfl, hga, hcells⟩ := HXS.out (by omega)
              have dx : wr.cell? ⟨ga, oa + p, none⟩ = some (.int .i64 (xs.getD p 0)) := (World.cell?_of_block (w := w) (a := ⟨ga, oa + p, none⟩) (TZ.out.bel.block ga hga)).trans (hcells p hp1)
              obtain ⟨g, rfl, hka, hnF⟩ := HK.out hL0
              obtain ⟨x, hx⟩ : ∃ x, x = xs.getD p 0 := ⟨_, rfl⟩
              rw [← hx] at dx
              obtain ⟨j, hj, hjw⟩ : ∃ j : Nat, j < L.length ∧ (IntKind.u64.wrap x).tmod (L.length : Int) = (j : Int) := by
                have h0 : 0 ≤ IntKind.u64.wrap x := by simp only [IntKind.wrap, IntKind.signed, IntKind.bits]; simp; omega
                have h2 := Int.emod_lt_of_pos (IntKind.u64.wrap x) (show (0 : Int) < (L.length : Int) by omega)
                have h3 := Int.emod_nonneg (IntKind.u64.wrap x) (show (L.length : Int) ≠ 0 by omega)
                rw [Int.tmod_eq_emod_of_nonneg h0]
                generalize IntKind.u64.wrap x % (L.length : Int) = q at h2 h3 ⊢
                exact ⟨q.toNat, by omega, by omega⟩
              obtain ⟨b0, hb0⟩ : ∃ b, L[j]? = some b := ⟨_, List.getElem?_eq_getElem hj⟩
              obtain ⟨hk1, -, -, -⟩ := HR.out.row j b0 hb0
              have hmk : (L.map Bf.key)[j]? = some (7, ((lo + j : Nat) : Int)) := by rw [List.getElem?_map, hb0, ← hk1]; rfl
              have hky := hka.below (BZ.out.block g hka.lt hnF) BZ.out.size
              have d1 : wr.cell? ⟨g, j * 2, none⟩ = some (.int .i64 7) := hky.c1 j _ hmk
              have d2 : wr.cell? ⟨g, j * 2 + 1, none⟩ = some (.int .i64 ((lo : Int) + (j : Int))) := by have := hky.c2 j _ hmk; rw [this]; rfl
              have m0 : (p : Int) < (xs.length : Int) := by omega
              have m1 : (j : Int) < (L.length : Int) := by omega
              have m2 : (0 : Int) ≤ (j : Int) := by omega
              have q0 : ((L.length : Int) == 0) = false := beq_eq_false_iff_ne.2 (by omega)
              have u1 : IntKind.u64.wrap (L.length : Int) = (L.length : Int) := by simp only [IntKind.wrap, IntKind.signed, IntKind.bits]; simp; omega
              have u2 : IntKind.i64.wrap (j : Int) = (j : Int) := IntWalk.i64_in _ (by clear hjw; omega)
              clear hky hka hmk hk1 hb0 hx hcells hga
              go_wp2_with fail
              have TX0 := TZ.out.alloc (.cells #[.int .i64 7, .int .i64 ((lo : Int) + (j : Int))] 29)
              have kx : KeyAt (wr.alloc (.cells #[.int .i64 7, .int .i64 ((lo : Int) + (j : Int))] 29)) F wr.heap.size 7 ((lo : Int) + (j : Int)) := KeyAt.new (blk_new rfl) rfl rfl (fun h => by have := TZ.out.c.lt _ h; omega)
              have hbel2 := BZ.out.alloc (.cells #[.int .i64 7, .int .i64 ((lo : Int) + (j : Int))] 29)
              generalize wr.alloc (.cells #[.int .i64 7, .int .i64 ((lo : Int) + (j : Int))] 29) = wx at TX0 kx hbel2 ⊢
              generalize wr.heap.size = kb at kx ⊢
              obtain ⟨b, hb, hbk⟩ := UZ.out.has j hj
              obtain ⟨A, B, rfl⟩ := List.append_of_mem hb
              obtain ⟨i, hi⟩ := LZ.out.at (b := b) (by simp)
              obtain ⟨hdat, hlo0, hhi0⟩ := UZ.out.all b (by simp)
              have hbv : keyV b.key = .agg #[.int .i64 7, .int .i64 ((lo : Int) + (j : Int))] := by rw [hbk]; rfl
              have hk2 : b.k2 = (lo : Int) + (j : Int) := by have := (Prod.mk.inj hbk).2; rw [this]; rfl
              have hql : Q'.length = L.length := by rw [LZ.out.perm.length_eq]; exact UZ.out.len
              have hget := cGet_any TX0.c hi (by omega) (by omega) (by rw [hql]; omega)
              rw [hbv, hdat, hk2] at hget
              refine hget.mono ?_
              rintro e wG ⟨vG, rfl, hown, hcG, hfG⟩
              obtain ⟨gG, cG, rfl, -, hgG, hrG⟩ := bytes_own hown
              have TG := Lib.hid (TX0.same hcG hfG); have KG := Lib.hid (kx.same hfG)
              have LG := Lib.hid (LZ.out.use hi); have UG := Lib.hid (UZ.out.use (s := (k : Int) + p + 1))
              have hkn : (0 : Int) ≤ (lo : Int) + (j : Int) := by omega
              have BG := Lib.hid (hbel2.trans hfG)
              have ek : (k : Int) + p + 1 = (k : Int) + ((p + 1 : Nat) : Int) := by omega
              rw [ek] at TG LG UG
              have ZG : Hid (LastK (A ++ B ++ [b.setStamp ((k : Int) + ((p + 1 : Nat) : Int))]) ((lo : Int) + (j : Int))) := Lib.hid (.inr ⟨hkn, A ++ B, _, rfl, hk2⟩)
              clear TX0 kx hbel2 hget hown hcG hfG hb hbk hbv hdat hlo0 hhi0 hi hql LZ UZ TZ BZ
              generalize useQ Q' i ((k : Int) + ((p + 1 : Nat) : Int)) = Q2 at TG LG
              generalize A ++ B ++ [b.setStamp ((k : Int) + ((p + 1 : Nat) : Int))] = L2 at LG UG ZG
              clear hk2 ZZ ek
              go_wp2_with fail
              generalize hy : (lo : Int) + (j : Int) = y at hrG KG hkn ZG
              have hy6 : y < 60 := by have := HLEN.out; omega
              have u8y : IntKind.u8.wrap y = y := by simp only [IntKind.wrap, IntKind.signed, IntKind.bits]; simp; omega
              obtain ⟨st, hst⟩ : ∃ st, st = strOfNums (patI [y, 1]) := ⟨_, rfl⟩
              generalize hwd : wG.drew = wd
              have TD := Lib.hid TG.out.drew; have KD := Lib.hid KG.out.drew; have BD := Lib.hid BG.out.drew
              have hrD : ∀ (j : Nat) (u : Value), (pat [y, 1])[j]? = some u → wG.drew.cell? ⟨gG, 0 + j, none⟩ = some u := hrG
              have hgD : gG < wG.drew.heap.size := hgG
              rw [hwd] at TD KD BD hrD hgD
              have cv1 := strPat [y, 1] hrD cG
              have cc := KD.out.c.2
              have cvA := strPat (w := wd.alloc (.cells #[.int .u8 y, .int .u8 1] 5)) [y, 1] (row_same hrD (((Fr.refl (fun _ => False) wd).alloc _).block gG hgD id)) cG
              rw [← hst] at cvA
              have HRG := Lib.hid hrD; have HST := Lib.hid hst
              rw [← hst] at cv1
              clear hrG hrD TG KG BG hgG hst dx d1 d2 m0 m1 m2 q0 u1 u2 hjw hkn
              first
                | go_region_law
                  (first
                    | (go_simp; go_at_call 11
                       refine (bytes_pair y wd).mono ?_
                       rintro e wB ⟨gB, rfl, hg1, hg2, hbB, hdB⟩
                       have fB := ((Fr.refl (fun _ => False) wd).alloc (.cells #[.int .u8 y, .int .u8 1] 5)).trans (Fr.below hbB)
                       have TB := Lib.hid (TD.out.still fB (fun _ _ h => h))
                       have BB := Lib.hid (BD.out.trans (fB.mono fun _ _ h => h.elim))
                       have KB := Lib.hid (KD.out.same (fB.mono fun _ _ h => h.elim)); have cc2 := KB.out.c.2
                       have cv2 := strPat [y, 1] (row_same HRG.out (fB.block gG hgD id)) cG
                       have cv3 := strPat [y, 1] hdB 64
                       rw [← HST.out] at cv2 cv3
                       clear hg1 hg2 hbB hdB fB
                       dsimp only))
                | fail
              all_goals
                clear HRG HST cv1 cvA cv2 cv3 cc TD KD BD cc2
                obtain ⟨k0, k1⟩ := KB.out.c
                go_wp2_with fail
                go_round
                case rel => exact ⟨p + 1, y, Q2, L2, by omega, rfl, by go_num, TB.out, LG.out, UG.out, ZG.out, BB.out⟩
                case measure => simp [intOf]; omega
            · by_cases hp1 : p < xs.length
              focus
                have hL0 : L.length = 0 := by omega
                obtain ⟨ga, oa, rfl, hga, hcells⟩ := HXS.out (by omega)
                have dx : wr.cell? ⟨ga, oa + p, none⟩ = some (.int .i64 (xs.getD p 0)) := (World.cell?_of_block (w := w) (a := ⟨ga, oa + p, none⟩) (TZ.out.bel.block ga hga)).trans (hcells p hp1)
                generalize xs.getD p 0 = x at dx
                have q0 : ((L.length : Int) == 0) = true := by rw [hL0]; rfl
                have m0 : (p : Int) < (xs.length : Int) := by omega
                clear hcells hga hL0
                go_wp2_with fail
                clear q0 m0 dx HXS
              rotate_left
              focus
                obtain rfl : p = xs.length := by omega
                go_wp2_with fail
                clear HXS
              all_goals
                clear hp1 hgo HK
                refine (cOrder_any TZ.out.c LZ.out (by rw [LZ.out.perm.length_eq, UZ.out.len]; omega)).mono ?_
                rintro e w4 ⟨v4, rfl, hown4, hb4⟩
                obtain ⟨a4, c4, hsh⟩ := own_shape hown4
                subst hsh
                have TE := Lib.hid (TZ.out.below hb4)
                have HO := Lib.hid hown4
                clear hown4 hb4 TZ
                rcases ZZ.out with rfl | ⟨hz0, A, b, rfl, hbz⟩
                · go_wp2_with fail
                  go_ret
                  exact ⟨rfl, TE.out.bel⟩
                · obtain ⟨g4, c4', he, _, hk4, _⟩ := keys_own HO.out (by simp)
                  obtain ⟨rfl, -, -⟩ := Value.slice.inj he
                  have d4 : w4.cell? ⟨g4, A.length * 2 + 1, none⟩ = some (.int .i64 z) := by rw [hk4.c2 A.length b.key (by simp)]; rw [← hbz]; rfl
                  obtain ⟨n4, hn4⟩ : ∃ n4, n4 = (A ++ [b]).length := ⟨_, rfl⟩
                  have hn5 : n4 = A.length + 1 := by rw [hn4]; simp
                  have hn6 : n4 ≤ 20 := by rw [hn4, UZ.out.len]; exact hlb
                  rw [← hn4]
                  have s4 : IntKind.i64.wrap ((n4 : Int) - 1) = (A.length : Int) := by rw [hn5]; refine (IntWalk.i64_in _ ?_).trans ?_ <;> omega
                  have m4 : (A.length : Int) < (n4 : Int) := by omega
                  have m5 : (0 : Int) ≤ (A.length : Int) := by omega
                  have q4 : decide (z < 0) = false := decide_eq_false (by omega)
                  clear hk4 he hn4 hn5
                  go_wp2_with fail
                  go_ret
                  exact ⟨rfl, TE.out.bel⟩
end Go.Proofs.Ytjldocpjoiibjaa
