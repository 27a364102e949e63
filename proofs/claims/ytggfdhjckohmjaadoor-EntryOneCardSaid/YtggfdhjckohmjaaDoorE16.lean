/- Walk of the statement EntryDirs of chapter 7: it returns true. -/
import Derived.Test.YtggfdhjckohmjaaDoorE14
namespace Go.Proofs.YtggfdhjckohmjaaDoor
open Go.RowKit

theorem short_of {L : List DE} (hL : L.length = 4) (h : ∀ j, j < 4 → (L.getD j nilDE).2.size ≤ 300) : shortD L := by
  intro p hp
  obtain ⟨i, hi, rfl⟩ := List.mem_iff_getElem.1 hp
  have := h i (by omega)
  rw [List.getD_eq_getElem?_getD, List.getElem?_eq_getElem hi] at this
  simp only [Option.getD_some] at this
  omega

set_option maxHeartbeats 1000000 in
theorem lawDirs_any (L : List DE) (hL : L.length = 4) (w : World) :
    Calls Tryd.prog 4 #[.agg (flatD L).toArray] w fun e w' => e = .returned (.bool true) ∧ Below w.heap.size w w' := by
  obtain ⟨Y, hY⟩ : ∃ Y, Y = (flatD L).toArray := ⟨_, rfl⟩
  have hYs : Y.size = 8 := by rw [hY]; simp [flatD_length, hL]
  have hmb := Lib.hid (fun hsh w => dirBlock_any L hL hsh w)
  have hrf := Lib.hid (fun w => refDir_any L hL w)
  have hrb := Lib.hid (fun hsh w => refDirBlock_any L hL hsh w)
  have q1 : ∀ w, (Op.equalIn 10000 40 (.agg (flatD L).toArray) (.agg (flatD L).toArray)).run Tryd.prog w = .ok true w := fun w =>
    (eqInD 9997 L L hL hL w).trans (by rw [decide_eq_true rfl])
  have g1 : Tryd.prog.eqGuardType Tryd.prog.depth 40 = false := by kernel_rfl
  have hget : ∀ k, k < 4 → _ := fun k hk => flatD_get L k (by omega)
  rw [← hY] at hmb hrf hrb q1 ⊢
  have HY := Lib.hid hY; clear hY
  have HL := Lib.hid hL; clear hL
  go_enter Tryd.func4, Tryd.ntmps4
  go_wp2_with fail
  refine (awake_any _).mono ?_
  rintro e w1 ⟨rfl, hb1⟩
  have k1 := Lib.hid (blk_below hb1 (by simp) (@blk_new w (.cells Y 40 (0, 0)) w.heap.size rfl))
  have hbel1 := below_call (below_alloc (Below.refl _ w) (Nat.le_refl _) _) hb1 (Nat.le_refl _)
  clear hb1
  have HG := Lib.hid hget; clear hget
  go_wp2_with fail
  go_loop [3, 12] (fun _ i => ∃ k : Nat, k ≤ 4 ∧ i = .int .i64 k ∧ ∀ j, j < k → (L.getD j nilDE).2.size ≤ 300) (fun _ i => 4 - (intOf i).toNat)
  case atStart => exact ⟨0, Nat.zero_le _, rfl, fun j hj => by omega⟩
  case round =>
    obtain ⟨k, hk, rfl, hsm⟩ := hrel
    by_cases hlt : k < 4
    · obtain ⟨_, gs⟩ := HG.out k hlt
      have k1' := k1.out
      rw [HY.out] at k1'
      obtain ⟨v, hv⟩ : ∃ v, (L.getD k nilDE).2 = v := ⟨_, rfl⟩
      rw [hv] at gs
      have d1 := cell_blk_some k1' (i := k * 2 + 1) (by simpa using gs)
      clear gs k1'
      have HV := Lib.hid hv; clear hv
      have HS := Lib.hid hsm; clear hsm
      by_cases hbig : 300 < v.size
      · have q3 : decide ((300 : Int) < (v.size : Int)) = true := by rw [decide_eq_true_eq]; omega
        go_wp2_with fail
        go_ret
        exact ⟨rfl, hbel1⟩
      · have q3 : decide ((300 : Int) < (v.size : Int)) = false := by rw [decide_eq_false_iff_not]; omega
        go_wp2_with fail
        go_round
        case rel =>
          refine ⟨k + 1, by omega, by go_num, fun j hj => ?_⟩
          by_cases hjk : j = k
          · subst hjk; rw [HV.out]; omega
          · exact HS.out j (by omega)
        case measure => simp [intOf]; omega
    · obtain rfl : k = 4 := by omega
      have hsh := short_of HL.out hsm
      have HSH := Lib.hid hsh
      clear hsm hsh
      go_wp2_with (refine wpList_load_row rfl 40 _ rfl _ rfl 40 _ _ _ k1.out Tryd.underlying40 rfl (by rw [hYs]; kernel_rfl) ?_)
      refine (hmb.out HSH.out _).mono ?_
      rintro e w2 ⟨ha, hn, hb2⟩
      have k2 := Lib.hid (blk_below hb2 (blk_lt k1.out) k1.out)
      have hbel2 := below_call hbel1 hb2 (Nat.le_refl _)
      clear hb2
      by_cases hok : allOkD L
      · obtain ⟨x, y, rfl, hown, rfl⟩ := ha hok
        clear ha hn
        rw [HL.out] at hown
        obtain ⟨g, c, rfl, _, hg, hc, hml, hby⟩ := own_bytes hown (by omega)
        clear hown
        go_wp2_with (refine wpList_load_row rfl 40 _ rfl _ rfl 40 _ _ _ k2.out Tryd.underlying40 rfl (by rw [hYs]; kernel_rfl) ?_)
        refine (hrf.out _).mono ?_
        rintro e w3 ⟨rfl, hb3⟩
        go_wp2_with fail
        refine (hrb.out HSH.out _).mono ?_
        rintro e w4 ⟨ha, _, hb4⟩
        obtain rfl := ha hok
        clear ha
        have hb34 := below_call hb3 hb4 (Nat.le_refl _)
        have hby4 := Lib.hid (bytes_below hby hb34 hg)
        have hg4 : g < w4.heap.size := Nat.lt_of_lt_of_le hg hb34.size
        have k4 := Lib.hid (blk_below hb34 (blk_lt k2.out) k2.out)
        have hbel4 := below_call hbel2 hb34 (Nat.le_refl _)
        have hcv := strOf_bytes w4 g 0 (dirBytes L) hby4.out c
        rw [show (dirBytes L).length = 64 by omega] at hcv
        clear hby hb3 hb4 hb34
        go_wp2_with fail
        have hrm := readDir_any (dirBytes L) (by omega) (isBytes_dirBytes L hok) g 0 c (by omega) w4 hg4 hby4.out
        rw [decD_dir L hok HL.out] at hrm
        refine hrm.mono ?_
        clear hrm
        rintro e w5 ⟨ha, _, hb5⟩
        obtain rfl := ha ⟨hok, rfl⟩
        clear ha
        have k5 := Lib.hid (blk_below hb5 (blk_lt k4.out) k4.out)
        have hbel5 := below_call hbel4 hb5 (Nat.le_refl _)
        rw [← HY.out]
        clear hb5 hcv
        have hsz5 := blk_lt k5.out
        have hone : Y.all (·.oneCell') = true := by rw [HY.out]; exact flatD_one _
        have hst := fun (w : World) (c : Array Value) (hc : c.size = 8) => run_storeCells_new (P := Tryd.prog) w 40 c Y (by rw [hYs]; kernel_rfl) (by rw [hc, hYs]) hone
        go_wp2_with (first
          | (refine wpList_load_rowg rfl 40 _ rfl _ rfl 40 _ _ _ (blk_old k5.out) Tryd.underlying40 rfl (by rw [hYs]; kernel_rfl) ?_)
          | (refine wpList_load_rowg rfl 40 _ rfl _ rfl 40 _ _ _ (blk_new rfl) Tryd.underlying40 rfl (by rw [hYs]; kernel_rfl) ?_))
        go_ret
        exact ⟨rfl, below_alloc hbel5 (Nat.le_refl _) _⟩
      · obtain rfl := hn hok
        clear ha hn
        have HN := Lib.hid hok; clear hok
        go_wp2_with (refine wpList_load_row rfl 40 _ rfl _ rfl 40 _ _ _ k2.out Tryd.underlying40 rfl (by rw [hYs]; kernel_rfl) ?_)
        refine (hrf.out _).mono ?_
        rintro e w3 ⟨rfl, hb3⟩
        go_wp2_with fail
        refine (hrb.out HSH.out _).mono ?_
        rintro e w4 ⟨_, hn, hb4⟩
        obtain rfl := hn HN.out
        clear hn
        have hbel4 := below_call hbel2 (below_call hb3 hb4 (Nat.le_refl _)) (Nat.le_refl _)
        have hnil := run_convert_bytes_nil (P := Tryd.prog) w4 26 5 Tryd.underlying26 Tryd.underlying5 0 0 9 Tryd.underlying9
        clear hb3 hb4
        go_wp2_with fail
        go_ret
        exact ⟨rfl, hbel4⟩
end Go.Proofs.YtggfdhjckohmjaaDoor
