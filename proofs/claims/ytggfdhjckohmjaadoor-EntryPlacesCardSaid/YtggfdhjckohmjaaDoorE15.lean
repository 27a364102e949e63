/- Walks of the statements EntryNames, EntryMaps, EntryDirs of chapter 7: each returns true. -/
import Derived.Test.YtggfdhjckohmjaaDoorE14
namespace Go.Proofs.YtggfdhjckohmjaaDoor
open Go.RowKit

theorem lawNames_any (s : ByteArray) (hs : s.size ≤ 140737488355328) (w : World) :
    Calls Tryd.prog 6 #[.string s] w fun e w' => e = .returned (.bool true) ∧ Below w.heap.size w w' := by
  have hn := Lib.hid (fun w => entryName_any s hs w)
  have hr := Lib.hid (fun w => refName_any s hs w)
  by_cases h2 : 2000 < s.size
  all_goals
    have q : decide (2000 < (s.size : Int)) = decide (2000 < s.size) := by rw [decide_eq_decide]; omega
    go_enter Tryd.func6, Tryd.ntmps6
    go_wp2_with fail
    refine (awake_any _).mono ?_
    rintro e w1 ⟨rfl, hb1⟩
    go_wp2_with fail
  · refine (awake_any _).mono ?_
    rintro e w2 ⟨rfl, hb2⟩
    go_wp2_with fail
    go_ret
    exact ⟨rfl, below_call hb1 hb2 (Nat.le_refl _)⟩
  · refine (hn.out _).mono ?_
    rintro e w2 ⟨rfl, hb2⟩
    go_wp2_with fail
    refine (hr.out _).mono ?_
    rintro e w3 ⟨rfl, rfl⟩
    go_wp2_with fail
    go_ret
    exact ⟨by simp, below_call hb1 hb2 (Nat.le_refl _)⟩

theorem lawMaps_any (L : List (Int × Int)) (hL : L.length = 8) (w : World) :
    Calls Tryd.prog 3 #[.agg (flatM L).toArray] w fun e w' => e = .returned (.bool true) ∧ Below w.heap.size w w' := by
  obtain ⟨Y, hY⟩ : ∃ Y, Y = (flatM L).toArray := ⟨_, rfl⟩
  have hYs : Y.size = 16 := by rw [hY]; simp [flatM_length, hL]
  have hone : Y.all (·.oneCell') = true := by rw [hY]; exact flatM_one _
  have hst := fun (w : World) (c : Array Value) (hc : c.size = 16) => run_storeCells_new (P := Tryd.prog) w 24 c Y (by rw [hYs]; kernel_rfl) (by rw [hc, hYs]) hone
  have hmb := Lib.hid (fun w => mapBlock_any L hL w)
  have hrf := Lib.hid (fun w => refMap_any L hL w)
  have hrb := Lib.hid (fun w => refMapBlock_any L hL w)
  have q1 : ∀ w, (Op.equalIn 10000 24 (.agg (flatM L).toArray) (.agg (flatM L).toArray)).run Tryd.prog w = .ok true w := fun w =>
    (eqInM 9997 L L hL hL w).trans (by rw [decide_eq_true rfl])
  have g1 : Tryd.prog.eqGuardType Tryd.prog.depth 24 = false := by kernel_rfl
  rw [← hY] at hmb hrf hrb q1 ⊢
  have HY := Lib.hid hY; clear hY
  have HL := Lib.hid hL; clear hL
  go_enter Tryd.func3, Tryd.ntmps3
  go_wp2_with fail
  refine (awake_any _).mono ?_
  rintro e w1 ⟨rfl, hb1⟩
  have k1 := Lib.hid (blk_below hb1 (by simp) (@blk_new w (.cells Y 24 (0, 0)) w.heap.size rfl))
  have hbel1 := below_call (below_alloc (Below.refl _ w) (Nat.le_refl _) _) hb1 (Nat.le_refl _)
  clear hb1
  go_wp2_with (refine wpList_load_row rfl 24 _ rfl _ rfl 24 _ _ _ k1.out Tryd.underlying24 rfl (by rw [hYs]; kernel_rfl) ?_)
  refine (hmb.out _).mono ?_
  rintro e w2 ⟨ha, hn, hb2⟩
  have k2 := Lib.hid (blk_below hb2 (blk_lt k1.out) k1.out)
  have hbel2 := below_call hbel1 hb2 (Nat.le_refl _)
  clear hb2
  by_cases hok : allOkM L
  · obtain ⟨x, y, rfl, hown, rfl⟩ := ha hok
    clear ha hn
    rw [HL.out] at hown
    obtain ⟨g, c, rfl, _, hg, hc, hml, hby⟩ := own_bytes hown (by omega)
    clear hown
    go_wp2_with (refine wpList_load_row rfl 24 _ rfl _ rfl 24 _ _ _ k2.out Tryd.underlying24 rfl (by rw [hYs]; kernel_rfl) ?_)
    refine (hrf.out _).mono ?_
    rintro e w3 ⟨rfl, hb3⟩
    go_wp2_with fail
    refine (hrb.out _).mono ?_
    rintro e w4 ⟨ha, _, hb4⟩
    obtain rfl := ha hok
    clear ha
    have hb34 := below_call hb3 hb4 (Nat.le_refl _)
    have hby4 := Lib.hid (bytes_below hby hb34 hg)
    have hg4 : g < w4.heap.size := Nat.lt_of_lt_of_le hg hb34.size
    have k4 := Lib.hid (blk_below hb34 (blk_lt k2.out) k2.out)
    have hbel4 := below_call hbel2 hb34 (Nat.le_refl _)
    have hcv := strOf_bytes w4 g 0 (mapBytes L) hby4.out c
    rw [show (mapBytes L).length = 64 by omega] at hcv
    clear hby hb3 hb4 hb34
    go_wp2_with fail
    have hrm := readMap_any (mapBytes L) (by omega) (isBytes_mapBytes L hok) g 0 c (by omega) w4 hg4 hby4.out
    rw [decI_map L hok HL.out] at hrm
    refine hrm.mono ?_
    clear hrm
    rintro e w5 ⟨ha, _, hb5⟩
    obtain rfl := ha ⟨hok, rfl⟩
    clear ha
    have k5 := Lib.hid (blk_below hb5 (blk_lt k4.out) k4.out)
    have hbel5 := below_call hbel4 hb5 (Nat.le_refl _)
    rw [← HY.out]
    clear hb5 hcv
    have hsz5 := blk_lt k5.out
    go_wp2_with (first
      | (refine wpList_load_rowg rfl 24 _ rfl _ rfl 24 _ _ _ (blk_old k5.out) Tryd.underlying24 rfl (by rw [hYs]; kernel_rfl) ?_)
      | (refine wpList_load_rowg rfl 24 _ rfl _ rfl 24 _ _ _ (blk_new rfl) Tryd.underlying24 rfl (by rw [hYs]; kernel_rfl) ?_))
    go_ret
    exact ⟨rfl, below_alloc hbel5 (Nat.le_refl _) _⟩
  · obtain rfl := hn hok
    clear ha hn
    have HN := Lib.hid hok; clear hok
    go_wp2_with (refine wpList_load_row rfl 24 _ rfl _ rfl 24 _ _ _ k2.out Tryd.underlying24 rfl (by rw [hYs]; kernel_rfl) ?_)
    refine (hrf.out _).mono ?_
    rintro e w3 ⟨rfl, hb3⟩
    go_wp2_with fail
    refine (hrb.out _).mono ?_
    rintro e w4 ⟨_, hn, hb4⟩
    obtain rfl := hn HN.out
    clear hn
    have hbel4 := below_call hbel2 (below_call hb3 hb4 (Nat.le_refl _)) (Nat.le_refl _)
    have hnil := run_convert_bytes_nil (P := Tryd.prog) w4 26 5 Tryd.underlying26 Tryd.underlying5 0 0 9 Tryd.underlying9
    clear hb3 hb4
    go_wp2_with fail
    go_ret
    exact ⟨rfl, hbel4⟩
end Go.Proofs.YtggfdhjckohmjaaDoor
