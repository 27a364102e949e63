/- What arguments of the types []byte, [][2]int are. -/
import Derived.Test.YtoofcnehoffllaaArgsI
import Derived.Test.YtoofcnehoffllaaT41
import Derived.Deep.Slices
namespace Go.Proofs.Ytoofcnehoffllaa
open Go.RowKit Go.ChangeShapes Go.WideShapes Go.ChangeAt Go.Deep

section
variable {H : Type} {enc : TypeId × Value → H} {W : World}
set_option maxRecDepth 100000 in
theorem arg_byt {base : Nat} {v : Value} {d : DataW H} {p : List MemPlace} (hval : Value.okWide Try.prog W .any base 29 v)
    (h : DataW.Trod enc Try.prog W 0 (fun _ => true) true 29 v d p) : ∃ ys, ArgB W v ys ∧ ∀ y ∈ ys, 0 ≤ y ∧ y < 256 := by
  obtain ⟨a1, len, cap, rfl⟩ := okWide_slice Try.underlying29 hval
  obtain ⟨fuel, hf⟩ := h
  rcases open_ints Try.underlying29 Try.underlying5 (by kernel_rfl) hf with ⟨hcs, _⟩ | ⟨a, len', cap', zs, hcs, _, hl, _, hz, _, hcell, hwz⟩
  · simp [Value.cells] at hcs
    obtain ⟨rfl, rfl, rfl⟩ := hcs
    exact ⟨[], ⟨none, 0, rfl, Nat.le_refl _, fun h => by simp at h⟩, fun y hy => by cases hy⟩
  · simp [Value.cells] at hcs
    obtain ⟨rfl, rfl, rfl⟩ := hcs
    simp only [if_true] at hz
    have hlen : (zs.take len).length = len := by rw [List.length_take]; omega
    refine ⟨zs.take len, ⟨some a, cap, by rw [hlen], by omega, fun h0 => ?_⟩, fun y hy => ?_⟩
    · obtain ⟨g, o, rfl, hg⟩ := addr_of_cell (hcell 0 (by omega))
      refine ⟨g, o, rfl, hg, fun j x hx => ?_⟩
      rw [List.getElem?_take] at hx
      split at hx
      · have hj : j < zs.length := (List.getElem?_eq_some_iff.1 hx).1
        have hadd : (⟨g, o, none⟩ : Addr).add j = ⟨g, o + j, none⟩ := by unfold Addr.add; split <;> simp_all
        have := hcell j hj
        rw [hadd] at this
        rw [this, List.getD_eq_getElem?_getD, hx]; rfl
      · cases hx
    · have := hwz y (List.mem_of_mem_take hy)
      simp [Lit.wf, IntKind.min, IntKind.max, IntKind.signed, IntKind.bits] at this
      omega
set_option maxRecDepth 100000 in
theorem two_trod {n : Nat} {cs : List Value} {y : DataW H × List MemPlace} (h : DataW.trod enc Try.prog W 0 (fun _ => true) true n 45 cs = some y) :
    ∃ x : Int × Int, cs = [.int .i64 x.1, .int .i64 x.2] := by
  obtain ⟨xs, k, _, _, hlen, hxl, hf⟩ := DataW.trod_array Try.underlying45 h
  rw [show Program.cellsOf Try.prog 45 = 2 by kernel_rfl] at hlen
  match cs, hlen with
  | [v0, v1], _ =>
    have hgo : ∀ i, i < 2 → ∃ y, xs[i]? = some y := fun i hi => ⟨_, List.getElem?_eq_getElem (by rw [hxl]; exact hi)⟩
    obtain ⟨y0, e0⟩ := hgo 0 (by omega)
    obtain ⟨y1, e1⟩ := hgo 1 (by omega)
    have ci : Program.cellsOf Try.prog 3 = 1 := by kernel_rfl
    have g0 := (hf 0 (by omega)).trans e0
    have g1 := (hf 1 (by omega)).trans e1
    rw [ci] at g0 g1
    obtain ⟨z0, h0, _⟩ := DataW.trod_int Try.underlying3 g0
    obtain ⟨z1, h1, _⟩ := DataW.trod_int Try.underlying3 g1
    have r0 : v0 = .int .i64 z0 := (List.cons.inj h0).1
    have r1 : v1 = .int .i64 z1 := (List.cons.inj h1).1
    subst r0 r1
    exact ⟨(z0, z1), rfl⟩
set_option maxRecDepth 100000 in
theorem arg_twos {base : Nat} {v : Value} {d : DataW H} {p : List MemPlace} (hval : Value.okWide Try.prog W .any base 44 v)
    (h : DataW.Trod enc Try.prog W 0 (fun _ => true) true 44 v d p) : ∃ xs, ArgW W v xs := by
  obtain ⟨a1, len, cap, rfl⟩ := okWide_slice Try.underlying44 hval
  obtain ⟨fuel, hf⟩ := h
  rcases open_slice Try.underlying44 hf with ⟨hcs, _⟩ | ⟨a, len', cap', mm, n, D, Pl, hcs, _, hl, _, hmm, _, hx⟩
  · simp [Value.cells] at hcs
    obtain ⟨rfl, rfl, rfl⟩ := hcs
    exact ⟨[], none, 0, rfl, fun h => by simp at h⟩
  · simp [Value.cells] at hcs
    obtain ⟨rfl, rfl, rfl⟩ := hcs
    simp only [if_true] at hmm
    rw [show Program.cellsOf Try.prog 45 = 2 by kernel_rfl] at hx
    have each : ∀ i, i < len → ∃ x : Int × Int, ∀ j, j < 2 → W.cell? (a.add (i * 2 + j)) = ([.int .i64 x.1, .int .i64 x.2] : List Value)[j]? := fun i hi => by
      obtain ⟨cs, h1, h2⟩ := hx i (by omega)
      obtain ⟨x, rfl⟩ := two_trod h2
      obtain ⟨_, _, hc⟩ := World.cells?_some h1
      refine ⟨x, fun j hj => ?_⟩
      have := hc j hj
      rwa [add_add] at this
    by_cases h0 : len = 0
    · subst h0
      exact ⟨[], some a, cap, rfl, fun h => by simp at h⟩
    · obtain ⟨x0, hx0⟩ := each 0 (by omega)
      have hc0 := hx0 0 (by omega)
      obtain ⟨g, o, rfl, hg⟩ := addr_of_cell hc0
      have hadd : ∀ j, (⟨g, o, none⟩ : Addr).add j = ⟨g, o + j, none⟩ := fun j => by unfold Addr.add; split <;> simp_all
      have hn : ∀ n, n ≤ len → ∃ xs : List (Int × Int), xs.length = n ∧ ∀ (i : Nat) x, xs[i]? = some x → W.cell? ⟨g, o + i * 2, none⟩ = some (.int .i64 x.1) ∧ W.cell? ⟨g, o + i * 2 + 1, none⟩ = some (.int .i64 x.2) := by
        clear hx0 hc0 h0 hx hf hval
        intro n
        induction n with
        | zero => exact fun _ => ⟨[], rfl, fun i x hx => by simp at hx⟩
        | succ n ih =>
          intro hn
          obtain ⟨ops, h1, h2⟩ := ih (by omega)
          obtain ⟨x, hx⟩ := each n (by omega)
          refine ⟨ops ++ [x], by simp [h1], fun i y hy => ?_⟩
          by_cases hi : i < n
          · rw [List.getElem?_append_left (by omega)] at hy
            exact h2 i y hy
          · have hil := (List.getElem?_eq_some_iff.1 hy).1
            rw [List.length_append, List.length_singleton] at hil
            obtain rfl : i = n := by omega
            rw [List.getElem?_append_right (by omega), h1, Nat.sub_self] at hy
            obtain rfl : x = y := by simpa using hy
            have hh : ∀ j, j < 2 → W.cell? ⟨g, o + (i * 2 + j), none⟩ = ([.int .i64 x.1, .int .i64 x.2] : List Value)[j]? := fun j hj => by rw [← hadd]; exact hx j hj
            exact ⟨hh 0 (by omega), by rw [Nat.add_assoc]; exact hh 1 (by omega)⟩
      obtain ⟨xs, h1, h2⟩ := hn len (Nat.le_refl _)
      exact ⟨xs, _, cap, by rw [h1], fun _ => ⟨g, o, rfl, hg, h2⟩⟩
end
end Go.Proofs.Ytoofcnehoffllaa
