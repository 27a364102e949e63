/- What an argument of the type []string, and one of the type []byte, is; joins of a path's pieces; a slice of texts copied onto an empty one. -/
import Derived.Test.YtpgeldhleikcdaaN11
import Derived.SliceStrings
import Derived.ChangeSlices
import Derived.WideShapes
namespace Go.Proofs.Ytpgeldhleikcdaa
open Go.RowKit Go.ChangeShapes Go.WideShapes Go.ChangeAt

theorem addr_of_cell {W : World} {a : Addr} {u : Value} (h : W.cell? (a.add 0) = some u) : ∃ g o, a = ⟨g, o, none⟩ ∧ g < W.heap.size := by
  obtain ⟨g, o, sp⟩ := a
  have e0 : (⟨g, o, sp⟩ : Addr).add 0 = ⟨g, o, sp⟩ := by simp [Addr.add]
  rw [e0] at h
  unfold World.cell? at h
  cases hg : W.heap[g]? with
  | none => simp [hg] at h
  | some ob =>
    have hlt := (Array.getElem?_eq_some_iff.1 hg).1
    cases sp with
    | none => exact ⟨g, o, rfl, hlt⟩
    | some s => cases ob <;> simp [hg] at h

theorem arg_strs {H : Type} {enc : TypeId × Value → H} {W : World} {base : Nat} {v : Value} {d : DataW H} {p : List MemPlace} (hval : Value.okWide Try.prog W .any base 22 v)
    (h : DataW.Trod enc Try.prog W 0 (fun _ => true) true 22 v d p) : ∃ l, StrsAt W.heap.size W v l := by
  obtain ⟨a1, len, cap, rfl⟩ := okWide_slice Try.underlying22 hval
  obtain ⟨fuel, hf⟩ := h
  rcases open_strings Try.underlying22 Try.underlying9 (by kernel_rfl) hf with ⟨hcs, _⟩ | ⟨a, len', cap', zs, hcs, _, hl, _, hz, _, hcell, _⟩
  · simp [Value.cells] at hcs
    obtain ⟨rfl, rfl, rfl⟩ := hcs
    exact ⟨[], .nil⟩
  · simp [Value.cells] at hcs
    obtain ⟨rfl, rfl, rfl⟩ := hcs
    simp only [if_true] at hz
    refine ⟨zs.take len, ?_⟩
    by_cases h0 : len = 0
    · subst h0
      exact .inl ⟨by simp, _, _, rfl⟩
    · have hlen : (zs.take len).length = len := by rw [List.length_take]; omega
      obtain ⟨g, o, rfl, hg⟩ := addr_of_cell (hcell 0 (by omega))
      refine .inr ⟨g, o, cap, by rw [hlen], by omega, by omega, hg, fun j x hx => ?_⟩
      rw [List.getElem?_take] at hx
      split at hx
      · have hj : j < zs.length := (List.getElem?_eq_some_iff.1 hx).1
        have hadd : (⟨g, o, none⟩ : Addr).add j = ⟨g, o + j, none⟩ := by unfold Addr.add; split <;> simp_all
        have := hcell j hj
        rw [hadd] at this
        rw [this, List.getD_eq_getElem?_getD, hx]; rfl
      · cases hx

theorem StrsAt.news {B : Nat} {w : World} {a : Option Addr} {n c : Nat} {l : List ByteArray} (h : StrsAt B w (.slice a n c) l) :
    (l = [] ∧ a = none) ∨ ∃ ad, a = some ad ∧ ∀ w', Below B w w' → ∀ j u, (l.map Value.string)[j]? = some u → w'.cell? (ad.add j) = some u := by
  rcases h with ⟨rfl, a', c', h1⟩ | ⟨g, o, c', h1, h2, _, h4, h5⟩
  · cases a with
    | none => exact .inl ⟨rfl, rfl⟩
    | some ad => exact .inr ⟨ad, rfl, fun w' _ j u hu => by simp at hu⟩
  · injection h1 with e1 e2 e3
    refine .inr ⟨⟨g, o, none⟩, e1, fun w' hb j u hu => ?_⟩
    rw [List.getElem?_map] at hu
    cases hx : l[j]? with
    | none => rw [hx] at hu; cases hu
    | some x =>
      rw [hx] at hu
      have hadd : (⟨g, o, none⟩ : Addr).add j = ⟨g, o + j, none⟩ := by unfold Addr.add; split <;> simp_all
      rw [hadd, cell_below hb h4, h5 j x hx]
      exact hu
theorem strs_one (l : List ByteArray) : ∀ u ∈ l.map Value.string, u.oneCell' = true := by
  intro u hu
  obtain ⟨x, _, rfl⟩ := List.mem_map.1 hu
  rfl
theorem own_fresh (w : World) : (w.alloc (.cells #[] 9)).ownsRow w.heap.size 9 1 (.slice (some ⟨w.heap.size, 0, none⟩) 0 0) 0 [] :=
  ⟨rfl, .inr ⟨w.heap.size, 0, #[], rfl, Nat.le_refl _, blk_new rfl, Nat.le_refl _, by decide, rfl, rfl⟩⟩

/-! ### joins -/
def costs (l : List (List UInt8)) : Nat := (l.map fun x => x.length + 1).sum
theorem costs_fields : ∀ (r cur : List UInt8), costs (fieldsB cur r) ≤ cur.length + r.length + 1
  | [], cur => by rw [fieldsB_last]; split <;> simp [costs]
  | x :: r, cur => by
    rw [fieldsB]
    have h1 := costs_fields r []
    have h2 := costs_fields r (cur ++ [x])
    simp only [costs, List.length_append, List.length_cons, List.length_nil] at h1 h2 ⊢
    split
    · split
      · omega
      · simp only [List.map_cons, List.sum_cons]; omega
    · omega
theorem slashed_length (l : List ByteArray) : (slashed l).length = costs (l.map (·.data.toList)) := by
  induction l with
  | nil => rfl
  | cons x r ih => simp only [slashed, costs, List.flatMap_cons, List.length_append, List.length_cons, List.map_cons, List.sum_cons] at ih ⊢; omega
theorem map_data_mkS (l : List (List UInt8)) : (l.map mkS).map (·.data.toList) = l := by
  rw [List.map_map]; conv => rhs; rw [← List.map_id l]
  exact List.map_congr_left fun x _ => data_mkS x
/-- Joined again a path's names are no longer than it was. -/
theorem join_split_E (s : ByteArray) (h : splitE s = 0) : joinE (splitN s) = 0 := by
  have hN : splitN s = splitL s := by unfold splitN; rw [if_pos h]
  have hbig : ¬ 255 < s.size := by intro hb; unfold splitE at h; rw [if_pos hb] at h; cases h
  unfold splitE at h
  rw [if_neg hbig] at h
  split at h
  · rename_i hh
    rw [hN]
    unfold joinE
    rw [if_pos h]
    have hlen : (joinB (splitL s)).length ≤ s.size := by
      obtain ⟨r, hr⟩ : ∃ r, s.data.toList = 47 :: r := by
        cases hd : s.data.toList with
        | nil => rw [hd] at hh; cases hh
        | cons x r => rw [hd] at hh; simp at hh; exact ⟨r, by rw [hh]⟩
      have hs : s.size = r.length + 1 := by rw [Lib.size_eq, hr]; rfl
      by_cases he : splitL s = []
      · rw [he]; show 1 ≤ _; omega
      · rw [← slashed_joinB _ he, slashed_length]
        unfold splitL
        rw [map_data_mkS, hr, fieldsB_slash, if_pos rfl]
        have := costs_fields r []
        simp at this; omega
    rw [if_neg (by omega)]
  · cases h
end Go.Proofs.Ytpgeldhleikcdaa
