/- Walk of the statement EntryOne of chapter 7: it returns true. -/
import Derived.Test.YtggfdhjckohmjaaDoorE16
namespace Go.Proofs.YtggfdhjckohmjaaDoor
open Go.RowKit

theorem arr8 (Y : Array Value) (h : Y.size = 8) : ∃ a0 a1 a2 a3 a4 a5 a6 a7, Y = #[a0, a1, a2, a3, a4, a5, a6, a7] := by
  obtain ⟨l⟩ := Y
  match l, h with
  | [a0, a1, a2, a3, a4, a5, a6, a7], _ => exact ⟨a0, a1, a2, a3, a4, a5, a6, a7, rfl⟩

set_option maxHeartbeats 1000000 in
set_option maxRecDepth 100000 in
theorem lawOne_any (L M : List DE) (hL : L.length = 4) (hM : M.length = 4) (w : World) :
    Calls Tryd.prog 8 #[.agg (flatD L).toArray, .agg (flatD M).toArray] w fun e w' => e = .returned (.bool true) ∧ Below w.heap.size w w' := by
  obtain ⟨Y, hY⟩ : ∃ Y, Y = (flatD L).toArray := ⟨_, rfl⟩
  obtain ⟨Z, hZ⟩ : ∃ Z, Z = (flatD M).toArray := ⟨_, rfl⟩
  have hYs : Y.size = 8 := by rw [hY]; simp [flatD_length, hL]
  have hZs : Z.size = 8 := by rw [hZ]; simp [flatD_length, hM]
  have hmb := Lib.hid (fun hsh w => dirBlock_any L hL hsh w)
  have hmc := Lib.hid (fun hsh w => dirBlock_any M hM hsh w)
  have q1 : ∀ w, (Op.equalIn 10000 40 (.agg (flatD L).toArray) (.agg (flatD M).toArray)).run Tryd.prog w = .ok (decide (L = M)) w := fun w =>
    (eqInD 9997 L M hL hM w)
  have g1 : Tryd.prog.eqGuardType Tryd.prog.depth 40 = false := by kernel_rfl
  have hget : ∀ k, k < 4 → _ := fun k hk => flatD_get L k (by omega)
  have hgem : ∀ k, k < 4 → _ := fun k hk => flatD_get M k (by omega)
  rw [← hY] at hmb q1 ⊢
  rw [← hZ] at hmc q1 ⊢
  have HY := Lib.hid hY; clear hY
  have HZ := Lib.hid hZ; clear hZ
  have HL := Lib.hid hL; clear hL
  have HM := Lib.hid hM; clear hM
  have Q1 := Lib.hid q1; clear q1
  go_enter Tryd.func8, Tryd.ntmps8
  go_wp2_with fail
  refine (awake_any _).mono ?_
  rintro e w1 ⟨rfl, hb1⟩
  have k1 := Lib.hid (blk_below hb1 (by simp; omega) (blk_old (@blk_new w (.cells Y 40 (0, 0)) w.heap.size rfl)))
  have j1 := Lib.hid (blk_below hb1 (by simp) (@blk_new (w.alloc (.cells Y 40 (0, 0))) (.cells Z 40 (0, 0)) (w.heap.size + 1) (by simp)))
  have hbel1 := below_call (below_alloc (below_alloc (Below.refl _ w) (Nat.le_refl _) _) (Nat.le_refl _) _) hb1 (Nat.le_refl _)
  clear hb1
  have HG := Lib.hid hget; clear hget
  have HN := Lib.hid hgem; clear hgem
  go_wp2_with fail
  go_loop [5, 12] (fun _ i => ∃ k : Nat, k ≤ 4 ∧ i = .int .i64 k ∧ (∀ j, j < k → (L.getD j nilDE).2.size ≤ 300) ∧ ∀ j, j < k → (M.getD j nilDE).2.size ≤ 300) (fun _ i => 4 - (intOf i).toNat)
  case atStart => exact ⟨0, Nat.zero_le _, rfl, fun j hj => by omega, fun j hj => by omega⟩
  case round =>
    obtain ⟨k, hk, rfl, hsm, hsn⟩ := hrel
    by_cases hlt : k < 4
    · obtain ⟨_, gs⟩ := HG.out k hlt
      obtain ⟨_, gt⟩ := HN.out k hlt
      have k1' := k1.out
      rw [HY.out] at k1'
      have j1' := j1.out
      rw [HZ.out] at j1'
      obtain ⟨v, hv⟩ : ∃ v, (L.getD k nilDE).2 = v := ⟨_, rfl⟩
      rw [hv] at gs
      obtain ⟨u, hu⟩ : ∃ u, (M.getD k nilDE).2 = u := ⟨_, rfl⟩
      rw [hu] at gt
      have d1 := cell_blk_some k1' (i := k * 2 + 1) (by simpa using gs)
      have d2 := cell_blk_some j1' (i := k * 2 + 1) (by simpa using gt)
      clear gs k1' gt j1'
      have HV := Lib.hid hv; clear hv
      have HU := Lib.hid hu; clear hu
      have HS := Lib.hid hsm; clear hsm
      have HT := Lib.hid hsn; clear hsn
      by_cases hbig : 300 < v.size
      · have q3 : decide ((300 : Int) < (v.size : Int)) = true := by rw [decide_eq_true_eq]; omega
        go_wp2_with fail
        go_ret
        exact ⟨rfl, hbel1⟩
      · have q3 : decide ((300 : Int) < (v.size : Int)) = false := by rw [decide_eq_false_iff_not]; omega
        by_cases hbig2 : 300 < u.size
        · have q4 : decide ((300 : Int) < (u.size : Int)) = true := by rw [decide_eq_true_eq]; omega
          go_wp2_with fail
          go_ret
          exact ⟨rfl, hbel1⟩
        · have q4 : decide ((300 : Int) < (u.size : Int)) = false := by rw [decide_eq_false_iff_not]; omega
          go_wp2_with fail
          go_round
          case rel =>
            refine ⟨k + 1, by omega, by go_num, fun j hj => ?_, fun j hj => ?_⟩
            · by_cases hjk : j = k
              · subst hjk; rw [HV.out]; omega
              · exact HS.out j (by omega)
            · by_cases hjk : j = k
              · subst hjk; rw [HU.out]; omega
              · exact HT.out j (by omega)
          case measure => simp [intOf]; omega
    · obtain rfl : k = 4 := by omega
      have HSH := Lib.hid (short_of HL.out hsm)
      have HSN := Lib.hid (short_of HM.out hsn)
      clear hsm hsn
      go_wp2_with (refine wpList_load_row rfl 40 _ rfl _ rfl 40 _ _ _ k1.out Tryd.underlying40 rfl (by rw [hYs]; kernel_rfl) ?_)
      refine (hmb.out HSH.out _).mono ?_
      rintro e w2 ⟨ha, hn, hb2⟩
      have k2 := Lib.hid (blk_below hb2 (blk_lt k1.out) k1.out)
      have j2 := Lib.hid (blk_below hb2 (blk_lt j1.out) j1.out)
      have hbel2 := below_call hbel1 hb2 (Nat.le_refl _)
      clear hb2
      by_cases hok : allOkD L
      · obtain ⟨x, y, rfl, hown, rfl⟩ := ha hok
        clear ha hn
        rw [HL.out] at hown
        obtain ⟨g, c, rfl, _, hg, hc, hml, hby⟩ := own_bytes hown (by omega)
        clear hown
        go_wp2_with (refine wpList_load_row rfl 40 _ rfl _ rfl 40 _ _ _ j2.out Tryd.underlying40 rfl (by rw [hZs]; kernel_rfl) ?_)
        refine (hmc.out HSN.out _).mono ?_
        rintro e w3 ⟨ha, hn, hb3⟩
        have k3 := Lib.hid (blk_below hb3 (blk_lt k2.out) k2.out)
        have j3 := Lib.hid (blk_below hb3 (blk_lt j2.out) j2.out)
        have hby3 := Lib.hid (bytes_below hby hb3 hg)
        have hbel3 := below_call hbel2 hb3 (Nat.le_refl _)
        clear hb3 hby
        by_cases hok2 : allOkD M
        · obtain ⟨x, y, rfl, hown, rfl⟩ := ha hok2
          clear ha hn
          rw [HM.out] at hown
          obtain ⟨g', c', rfl, _, hg', hc', hml', hby'⟩ := own_bytes hown (by omega)
          clear hown
          have hcv := fun n => strOf_bytes (w3.drewN n) g 0 (dirBytes L) hby3.out c
          rw [show (dirBytes L).length = 64 by omega] at hcv
          have hcw := fun n => strOf_bytes (w3.drewN n) g' 0 (dirBytes M) hby' c'
          rw [show (dirBytes M).length = 64 by omega] at hcw
          have qq := Q1.out
          obtain ⟨S, hS⟩ : ∃ S, S = strOfNums (dirBytes L) := ⟨_, rfl⟩
          obtain ⟨T, hT⟩ : ∃ T, T = strOfNums (dirBytes M) := ⟨_, rfl⟩
          rw [← hS] at hcv
          rw [← hT] at hcw
          obtain ⟨y0, y1, y2, y3, y4, y5, y6, y7, rfl⟩ := arr8 Y hYs
          obtain ⟨z0, z1, z2, z3, z4, z5, z6, z7, rfl⟩ := arr8 Z hZs
          have c0 := cell_blk_some k3.out (i := 0) (by rfl)
          have c1 := cell_blk_some k3.out (i := 1) (by rfl)
          have c2 := cell_blk_some k3.out (i := 2) (by rfl)
          have c3 := cell_blk_some k3.out (i := 3) (by rfl)
          have c4 := cell_blk_some k3.out (i := 4) (by rfl)
          have c5 := cell_blk_some k3.out (i := 5) (by rfl)
          have c6 := cell_blk_some k3.out (i := 6) (by rfl)
          have c7 := cell_blk_some k3.out (i := 7) (by rfl)
          have e0 := cell_blk_some j3.out (i := 0) (by rfl)
          have e1 := cell_blk_some j3.out (i := 1) (by rfl)
          have e2 := cell_blk_some j3.out (i := 2) (by rfl)
          have e3 := cell_blk_some j3.out (i := 3) (by rfl)
          have e4 := cell_blk_some j3.out (i := 4) (by rfl)
          have e5 := cell_blk_some j3.out (i := 5) (by rfl)
          have e6 := cell_blk_some j3.out (i := 6) (by rfl)
          have e7 := cell_blk_some j3.out (i := 7) (by rfl)
          by_cases heq : L = M
          · have qs : (S.toList == T.toList) = true := by rw [hS, hT, heq]; exact beq_self_eq_true _
            rw [decide_eq_true heq] at qq
            have HQ := Lib.hid heq; have HS := Lib.hid hS; have HT := Lib.hid hT
            clear heq hS hT
            go_wp2_with fail
            go_quiet (fail)
            have hbw := below_drewN hbel3 nq
            generalize w3.drewN nq = w4 at hbw ⊢
            go_wp2_with fail
            go_ret
            exact ⟨rfl, hbw⟩
          · have qs : (S.toList == T.toList) = false := by
              rw [hS, hT]
              exact strOfNums_ne (isBytes_dirBytes L hok) (isBytes_dirBytes M hok2) fun e => heq (dirBytes_inj L M hok hok2 HL.out HM.out e)
            rw [decide_eq_false heq] at qq
            have HQ := Lib.hid heq; have HS := Lib.hid hS; have HT := Lib.hid hT
            clear heq hS hT
            go_wp2_with fail
            go_quiet (fail)
            have hbw := below_drewN hbel3 nq
            generalize w3.drewN nq = w4 at hbw ⊢
            go_wp2_with fail
            go_ret
            exact ⟨rfl, hbw⟩
        · obtain rfl := hn hok2
          clear ha hn
          have HN := Lib.hid hok2; clear hok2
          go_wp2_with fail
          go_quiet (fail)
          have hbw := below_drewN hbel3 nq
          generalize w3.drewN nq = w4 at hbw ⊢
          go_wp2_with fail
          go_ret
          exact ⟨rfl, hbw⟩
      · obtain rfl := hn hok
        clear ha hn
        have HN := Lib.hid hok; clear hok
        go_wp2_with (refine wpList_load_row rfl 40 _ rfl _ rfl 40 _ _ _ j2.out Tryd.underlying40 rfl (by rw [hZs]; kernel_rfl) ?_)
        refine (hmc.out HSN.out _).mono ?_
        rintro e w3 ⟨ha, hn, hb3⟩
        have hbel3 := below_call hbel2 hb3 (Nat.le_refl _)
        clear hb3
        by_cases hok2 : allOkD M
        · obtain ⟨x, y, rfl, hown, rfl⟩ := ha hok2
          clear ha hn
          rw [HM.out] at hown
          obtain ⟨g', c', rfl, _, hg', hc', hml', hby'⟩ := own_bytes hown (by omega)
          clear hown
          go_wp2_with fail
          go_quiet (fail)
          have hbw := below_drewN hbel3 nq
          generalize w3.drewN nq = w4 at hbw ⊢
          go_wp2_with fail
          go_ret
          exact ⟨rfl, hbw⟩
        · obtain rfl := hn hok2
          clear ha hn hok2
          go_wp2_with fail
          go_quiet (fail)
          have hbw := below_drewN hbel3 nq
          generalize w3.drewN nq = w4 at hbw ⊢
          go_wp2_with fail
          go_ret
          exact ⟨rfl, hbw⟩
end Go.Proofs.YtggfdhjckohmjaaDoor
