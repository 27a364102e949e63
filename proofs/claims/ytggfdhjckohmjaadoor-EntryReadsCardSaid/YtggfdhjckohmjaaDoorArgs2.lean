/- What an argument of the type []byte is: a slice of some bytes. -/
import Derived.Test.YtggfdhjckohmjaaDoorE18
import Derived.ChangeSlices
import Derived.WideShapes
namespace Go.Proofs.YtggfdhjckohmjaaDoor
open Go.RowKit Go.ChangeShapes Go.WideShapes Go.ChangeAt

theorem wf_u8 {n : Int} (h : (Lit.int .u8 n).wf = true) : 0 ≤ n ∧ n ≤ 255 := by simpa [Lit.wf, IntKind.min, IntKind.max, IntKind.signed, IntKind.bits] using h

theorem arg_bytes {H : Type} {enc : TypeId × Value → H} {W : World} {base : Nat} {v : Value} {d : DataW H} {p : List MemPlace} (hval : Value.okWide Tryd.prog W .any base 26 v)
    (h : DataW.Trod enc Tryd.prog W 0 (fun _ => true) true 26 v d p) : ∃ xs, isBytes xs ∧ SrcAt W.heap.size W v xs := by
  obtain ⟨a1, len, cap, rfl⟩ := okWide_slice Tryd.underlying26 hval
  obtain ⟨fuel, hf⟩ := h
  rcases open_ints Tryd.underlying26 Tryd.underlying5 (by kernel_rfl) hf with ⟨hcs, _⟩ | ⟨a, len', cap', zs, hcs, _, hl, _, hz, _, hcell, hwz⟩
  · simp [Value.cells] at hcs
    obtain ⟨rfl, rfl, rfl⟩ := hcs
    exact ⟨[], fun i => by simp, .inl ⟨rfl, .inl rfl⟩⟩
  · simp [Value.cells] at hcs
    obtain ⟨rfl, rfl, rfl⟩ := hcs
    simp only [if_true] at hz
    refine ⟨zs.take len, fun i => ?_, ?_⟩
    · rw [List.getD_eq_getElem?_getD]
      cases hi : (zs.take len)[i]? with
      | none => simp
      | some x => exact wf_u8 (hwz x (List.mem_of_mem_take (List.mem_of_getElem? hi)))
    · by_cases h0 : len = 0
      · subst h0
        exact .inl ⟨by simp, .inr ⟨a, cap, rfl⟩⟩
      · have hlen : (zs.take len).length = len := by rw [List.length_take]; omega
        have hc0 := hcell 0 (by omega)
        obtain ⟨g, o, sp⟩ := a
        have hsp : sp = none ∧ g < W.heap.size := by
          have e0 : (⟨g, o, sp⟩ : Addr).add 0 = ⟨g, o, sp⟩ := by simp [Addr.add]
          rw [e0] at hc0
          unfold World.cell? at hc0
          cases hg : W.heap[g]? with
          | none => simp [hg] at hc0
          | some ob =>
            refine ⟨?_, (Array.getElem?_eq_some_iff.1 hg).1⟩
            cases sp with
            | none => rfl
            | some s => cases ob <;> simp [hg] at hc0
        obtain ⟨rfl, hg⟩ := hsp
        refine .inr ⟨g, o, cap, by rw [hlen], by omega, by omega, hg, fun i hi => ?_⟩
        rw [hlen] at hi
        have hadd : (⟨g, o, none⟩ : Addr).add i = ⟨g, o + i, none⟩ := by unfold Addr.add; split <;> simp_all
        have := hcell i (by omega)
        rw [hadd] at this
        rw [this]
        simp [List.getD_eq_getElem?_getD, hi]
end Go.Proofs.YtggfdhjckohmjaaDoor
