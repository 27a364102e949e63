/- What an argument of the type []int is. -/
import Derived.Test.YtoofcnehoffllaaGreatInts
import Derived.ChangeSlices
import Derived.WideShapes
import Derived.SizedLaws
namespace Go.Proofs.YtoofcnehoffllaaGreat
open Go.RowKit Go.ChangeShapes Go.WideShapes Go.ChangeAt

theorem addr_of_cell {W : World} {a : Addr} {u : Value} (h : W.cell? (a.add 0) = some u) : ∃ g o, a = ⟨g, o, none⟩ ∧ g < W.heap.size := by
  obtain ⟨g, o, sp⟩ := a
  have e0 : (⟨g, o, sp⟩ : Addr).add 0 = ⟨g, o, sp⟩ := by simp [Addr.add]
  rw [e0] at h
  unfold World.cell? at h
  cases hg : W.heap[g]? with
  | none => simp [hg] at h
  | some ob =>
    have hlt := (Array.getElem?_eq_some_iff.1 hg).1
    cases sp with
    | none => exact ⟨g, o, rfl, hlt⟩
    | some s => cases ob <;> simp [hg] at h

end Go.Proofs.YtoofcnehoffllaaGreat
