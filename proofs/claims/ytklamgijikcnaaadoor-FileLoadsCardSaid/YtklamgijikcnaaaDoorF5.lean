/- Walks of index.Level, Covers, Parent. -/
import Derived.Test.YtklamgijikcnaaaDoorF4
namespace Go.Proofs.YtklamgijikcnaaaDoor
open Go.RowKit

theorem level_ok {n f : Int} {l : Nat} (hn : findN n = some (l, f)) {w : World} (S : SpanAt w) :
    Calls Tryd.prog 26 #[.int .i64 n] w fun e w' => e = .returned (.tuple #[.int .i64 l, .int .i64 0]) ∧ ∃ k, w' = w.drewN k := by
  have HF := Lib.hid (find_ok hn S)
  clear hn S
  go_enter Tryd.func26, Tryd.ntmps26
  go_wp2_with fail
  refine HF.out.mono ?_
  rintro e w1 ⟨rfl, k, rfl⟩
  go_wp2_with fail
  go_ret2
  exact ⟨rfl, k, rfl⟩
theorem covers_ok {n f : Int} {l : Nat} (hn : findN n = some (l, f)) {w : World} (S : SpanAt w) :
    Calls Tryd.prog 60 #[.int .i64 n] w fun e w' => e = .returned (.tuple #[.int .i64 f, .int .i64 (if wideN l ≤ 600 - f then wideN l else 600 - f), .int .i64 0]) ∧ ∃ k, w' = w.drewN k := by
  obtain ⟨f0, f1, hlk, hl3, n0, n1⟩ := findN_bd hn
  have HF := Lib.hid (find_ok hn S)
  have HW := Lib.hid (fun w => wide_any l hl3 w)
  obtain ⟨w0, w1⟩ := wideN_bd l
  clear hn S
  go_enter Tryd.func60, Tryd.ntmps60
  go_wp2_with fail
  refine HF.out.mono ?_
  rintro e w1 ⟨rfl, k, rfl⟩
  go_wp2_with fail
  refine (HW.out _).mono ?_
  rintro e w2 ⟨rfl, rfl⟩
  go_wp2_with fail
  all_goals
    go_ret3
    exact ⟨rfl, k, rfl⟩
set_option maxHeartbeats 1000000 in
theorem parent_ok {n f : Int} {l : Nat} (hn : findN n = some (l, f)) {w : World} (S : SpanAt w) :
    Calls Tryd.prog 51 #[.int .i64 n] w fun e w' => e = .returned (.tuple #[.int .i64 (upN n).1, .int .i64 (upN n).2, .int .i64 0]) ∧ Below w.heap.size w w' := by
  obtain ⟨f0, f1, hlk, hl3, n0, n1⟩ := findN_bd hn
  have hk3 := rootN_le f
  have HT := Lib.hid (to_any hn S)
  have hlen := path_length hn
  have hll := lvl_of hn
  have hlast := fun (h : l < rootN f) => path_at hn (j := rootN f - l - 1) (by omega)
  have HL := Lib.hid hlen; have HLL := Lib.hid hll; have HLA := Lib.hid hlast
  clear hn S hlen hll hlast
  go_enter Tryd.func51, Tryd.ntmps51
  go_wp2_with fail
  refine HT.out.mono ?_
  rintro e w1 ⟨vM, vS, rfl, hM, hS, hb⟩
  obtain ⟨M, hMd⟩ : ∃ M, M = (pathN n).map (·.1) := ⟨_, rfl⟩
  obtain ⟨N, hNd⟩ : ∃ N, N = (pathN n).map (·.2) := ⟨_, rfl⟩
  rw [← hMd] at hM
  rw [← hNd] at hS
  have hMl : M.length = rootN f - l := by rw [hMd, List.length_map]; exact HL.out
  have hNl : N.length = rootN f - l := by rw [hNd, List.length_map]; exact HL.out
  have MD := Lib.hid hMd; have ND := Lib.hid hNd
  clear hMd hNd
  obtain ⟨x1, y1, rfl⟩ := hM.shape
  obtain ⟨x2, y2, rfl⟩ := hS.shape
  have HB := Lib.hid hb
  clear hb HT
  by_cases hlk2 : l < rootN f
  · obtain ⟨g1, c1, e1, hc1, hg1, hg1', hcl1, hfz1⟩ := hM.cells (by omega)
    obtain ⟨g2, c2, e2, hc2, hg2, hg2', hcl2, hfz2⟩ := hS.cells (by omega)
    obtain ⟨p, hp⟩ : ∃ p, p = wayN f (l + 1) := ⟨_, rfl⟩
    have hpa := HLA.out hlk2
    rw [show rootN f - (rootN f - l - 1) = l + 1 by omega, ← hp] at hpa
    have hm1 : M[M.length - 1]? = some p.1 := by rw [hMl, MD.out, List.getElem?_map, hpa]; rfl
    have hm2 : N[M.length - 1]? = some p.2 := by rw [hMl, ND.out, List.getElem?_map, hpa]; rfl
    have hup : upN n = p := by unfold upN; rw [HLL.out.1, HLL.out.2, if_neg (by omega), if_neg (by omega), hp]
    injection e1 with e1 _ e1'
    injection e2 with e2 _ e2'
    subst e1 e1' e2 e2'
    obtain ⟨q, hq⟩ : ∃ q : Nat, M.length = q + 1 := ⟨M.length - 1, by omega⟩
    rw [hq, Nat.add_sub_cancel] at hm1 hm2
    have hqa1 := fun o => (World.cell?_of_block (w := w1) (w' := w1.alloc o) (a := ⟨g1, q, none⟩) (blk_old_eq hg1')).trans (hcl1 q _ hm1)
    have hqa2 := fun o => (World.cell?_of_block (w := w1) (w' := w1.alloc o) (a := ⟨g2, q, none⟩) (blk_old_eq hg2')).trans (hcl2 q _ hm2)
    have hNl2 : N.length = q + 1 := by omega
    rw [hq, hNl2]
    have hq3 : q ≤ 3 := by omega
    have hqi : (q : Int) < ((q + 1 : Nat) : Int) := by omega
    have hqj : (0 : Int) ≤ (q : Int) := by omega
    have hqk : (q : Int) < (q : Int) + 1 := by omega
    have HU := Lib.hid hup; have HQ := Lib.hid hq
    clear hcl1 hcl2 hm1 hm2 hpa hp hq hM hS hfz1 hfz2 HLA hup hMl hNl hNl2
    go_wp2_with fail
    go_quiet (fail)
    go_wp2_with fail
    go_ret3
    exact ⟨by rw [HU.out]; rfl, below_drewN (below_alloc HB.out (Nat.le_refl _) _) _⟩
  · have hM0 : M.length = 0 := by omega
    have hup : upN n = (600, rootV f) := by
      unfold upN rootV
      rw [HLL.out.1, HLL.out.2]
      by_cases h0 : rootN f = 0
      · rw [if_pos h0, if_pos h0]
      · rw [if_neg h0, if_pos (by omega), if_neg h0]
    rw [hM0]
    have HU := Lib.hid hup
    clear hM hS hM0 hMl hNl hup HLA
    go_wp2_with fail
    go_quiet (fail)
    go_wp2_with fail
    go_ret3
    exact ⟨by rw [HU.out]; rfl, below_drewN (below_alloc HB.out (Nat.le_refl _) _) _⟩
end Go.Proofs.YtklamgijikcnaaaDoor
