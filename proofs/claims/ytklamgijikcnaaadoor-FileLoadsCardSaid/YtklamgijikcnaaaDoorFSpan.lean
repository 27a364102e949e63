/- From what a row says of the index package's table to what the walks ask of it. -/
import Derived.Test.YtklamgijikcnaaaDoorF2
import Derived.Lib.LaidTab
namespace Go.Proofs.YtklamgijikcnaaaDoor
open Go.RowKit

theorem span_of_laid {n : String} {W : World} (h : laidMetH Tryd.prog [(n, Rows.laid_marl_index_span)] W) (hg : Tryd.prog.globalNamed n = some 0 := by kernel_rfl) : SpanAt W := by
  have h : laidMet Tryd.prog [(n, Rows.laid_marl_index_span)] W := h
  have ht : Lib.TabIs Tryd.prog W n .i64 [0, 6, 22, 278, 1073741824] :=
    Lib.tabIs_of_head (g := 0) (t := 129) (e := 3) (n := 5) hg (by kernel_rfl) Tryd.underlying129 Tryd.underlying3 (by kernel_rfl) (by kernel_rfl) h
  have hc : ∀ k : Nat, k < 5 → W.cell? ⟨0, k, none⟩ = some (.int .i64 (spanN k)) := fun k hk => by
    have := ht.cell hg k hk
    rw [this]
    have h5 : k = 0 ∨ k = 1 ∨ k = 2 ∨ k = 3 ∨ k = 4 := by omega
    rcases h5 with rfl | rfl | rfl | rfl | rfl <;> rfl
  refine ⟨?_, hc⟩
  have h0 := hc 0 (by omega)
  unfold World.cell? at h0
  cases hq : W.heap[0]? with
  | none => simp [hq] at h0
  | some o => exact (Array.getElem?_eq_some_iff.1 hq).1
end Go.Proofs.YtklamgijikcnaaaDoor
