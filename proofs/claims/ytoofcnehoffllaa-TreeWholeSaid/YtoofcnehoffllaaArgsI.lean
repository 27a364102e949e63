/- What an argument of the type []int is. -/
import Derived.Test.YtoofcnehoffllaaInts
import Derived.ChangeSlices
import Derived.WideShapes
import Derived.SizedLaws
namespace Go.Proofs.Ytoofcnehoffllaa
open Go.RowKit Go.ChangeShapes Go.WideShapes Go.ChangeAt

theorem addr_of_cell {W : World} {a : Addr} {u : Value} (h : W.cell? (a.add 0) = some u) : ∃ g o, a = ⟨g, o, none⟩ ∧ g < W.heap.size := by
  obtain ⟨g, o, sp⟩ := a
  have e0 : (⟨g, o, sp⟩ : Addr).add 0 = ⟨g, o, sp⟩ := by simp [Addr.add]
  rw [e0] at h
  unfold World.cell? at h
  cases hg : W.heap[g]? with
  | none => simp [hg] at h
  | some ob =>
    have hlt := (Array.getElem?_eq_some_iff.1 hg).1
    cases sp with
    | none => exact ⟨g, o, rfl, hlt⟩
    | some s => cases ob <;> simp [hg] at h

set_option maxRecDepth 100000 in
theorem arg_ints {H : Type} {enc : TypeId × Value → H} {W : World} {base : Nat} {v : Value} {d : DataW H} {p : List MemPlace} (hval : Value.okWide Try.prog W .any base 22 v)
    (h : DataW.Trod enc Try.prog W 0 (fun _ => true) true 22 v d p) :
    ∃ xs : List Int, (∃ a c, v = .slice a xs.length c ∧ (0 < xs.length → ∃ g o, a = some ⟨g, o, none⟩ ∧ g < W.heap.size ∧ ∀ i, i < xs.length → W.cell? ⟨g, o + i, none⟩ = some (.int .i64 (xs.getD i 0)))) ∧
      (xs = [] ∨ ∃ elems spare, d = .slice elems spare ∧ elems.length = xs.length) := by
  obtain ⟨a1, len, cap, rfl⟩ := okWide_slice Try.underlying22 hval
  obtain ⟨fuel, hf⟩ := h
  rcases open_ints Try.underlying22 Try.underlying3 (by kernel_rfl) hf with ⟨hcs, _⟩ | ⟨a, len', cap', zs, hcs, _, hl, _, hz, hx, hcell, _⟩
  · simp [Value.cells] at hcs
    obtain ⟨rfl, rfl, rfl⟩ := hcs
    exact ⟨[], ⟨_, _, rfl, fun h => by simp at h⟩, .inl rfl⟩
  · simp [Value.cells] at hcs
    obtain ⟨rfl, rfl, rfl⟩ := hcs
    simp only [if_true] at hz
    have hlen : (zs.take len).length = len := by rw [List.length_take]; omega
    refine ⟨zs.take len, ⟨some a, cap, by rw [hlen], fun h0 => ?_⟩, .inr ⟨_, _, (Prod.mk.inj hx).1, by simp [lits]⟩⟩
    rw [hlen] at h0
    obtain ⟨g, o, rfl, hg⟩ := addr_of_cell (hcell 0 (by omega))
    refine ⟨g, o, rfl, hg, fun i hi => ?_⟩
    rw [hlen] at hi
    have hadd : (⟨g, o, none⟩ : Addr).add i = ⟨g, o + i, none⟩ := by unfold Addr.add; split <;> simp_all
    have := hcell i (by omega)
    rw [hadd] at this
    rw [this, List.getD_eq_getElem?_getD, List.getD_eq_getElem?_getD, List.getElem?_take, if_pos hi]
set_option maxRecDepth 100000 in
theorem sized_ints {H : Type} {ts : List TypeId} {ds : List (DataW H)} {d : DataW H} {xs : List Int} {j : Nat} (h : (DataW.weightsEach Try.prog ts ds).all (· ≤ reachBytes) = true) (ht : ts[j]? = some 22) (hd : ds[j]? = some d)
    (hx : xs = [] ∨ ∃ elems spare, d = .slice elems spare ∧ elems.length = xs.length) : xs.length ≤ 1000000000000000000 := by
  rcases hx with rfl | ⟨el, sp, rfl, he⟩
  · simp
  · have h1 := sized_slice h ht hd Try.underlying22
    rw [show Program.bytesOf Try.prog 3 = 8 by kernel_rfl] at h1
    have h2 := reachBytes_lt
    rw [he] at h1
    omega
end Go.Proofs.Ytoofcnehoffllaa
