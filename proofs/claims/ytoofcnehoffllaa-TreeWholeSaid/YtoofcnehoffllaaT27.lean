/- Sorted texts: the library's sort at a row of texts that the call owns; the keys of a map, sorted. -/
import Derived.Test.YtoofcnehoffllaaT26
import Derived.Test.YtoofcnehoffllaaShelfI
import Derived.StringKeys
namespace Go.Proofs.Ytoofcnehoffllaa
open Go.RowKit

/-- Texts, rising. -/
def sortS (l : List ByteArray) : List ByteArray := ((l.map (·.data.toList)).mergeSort fun x y => decide (x ≤ y)).map mkS
theorem sortS_perm (l : List ByteArray) : (sortS l).Perm l := by
  unfold sortS
  have := (List.mergeSort_perm (l.map (·.data.toList)) fun x y => decide (x ≤ y)).map mkS
  rw [map_mkS_data] at this
  exact this
theorem sortS_length (l : List ByteArray) : (sortS l).length = l.length := (sortS_perm l).length_eq
theorem sortS_of_perm {l m : List ByteArray} (h : l.Perm m) : sortS l = sortS m := by
  unfold sortS
  rw [mergeSort_of_perm (h.map _)]
theorem sortS_sorted (l : List ByteArray) : ((sortS l).map (·.data.toList)).Pairwise (· ≤ ·) := by
  unfold sortS
  rw [map_data_mkS]
  have := List.pairwise_mergeSort (le := fun x y : List UInt8 => decide (x ≤ y)) (fun a b c h1 h2 => by simp only [decide_eq_true_eq] at *; exact List.le_trans h1 h2) (fun a b => by simp only [Bool.or_eq_true, decide_eq_true_eq]; exact List.le_total a b) (l.map (·.data.toList))
  exact this.imp fun h => by simpa using h
theorem sortS_eq {l m : List ByteArray} (h : m.Perm l) (hs : (m.map (·.data.toList)).Pairwise (· ≤ ·)) : sortS l = m := by
  have h1 : ((sortS l).map (·.data.toList)) = m.map (·.data.toList) := List.Perm.eq_of_pairwise (le := (· ≤ ·)) (fun a b _ _ h1 h2 => List.le_antisymm h1 h2) (sortS_sorted l) hs (((sortS_perm l).trans h.symm).map _)
  have := congrArg (List.map mkS) h1
  rw [map_mkS_data, map_mkS_data] at this
  exact this
theorem encS (l : List ByteArray) : (l.map (·.data.toList)).map encStr = l.map Value.string := by
  rw [List.map_map]
  exact List.map_congr_left fun x _ => by simp [encStr]
theorem encS' (l : List ByteArray) : ((l.map (·.data.toList)).mergeSort fun x y => decide (x ≤ y)).map encStr = (sortS l).map Value.string := by
  rw [← encS]
  unfold sortS
  rw [map_data_mkS]
section
variable {w : World} {B : Nat} {v : Value} {l : List ByteArray}
theorem sortS_own (h : w.ownsRow B 9 1 v l.length (l.map Value.string)) (hl : l.length ≤ 1000000000) :
    Calls Try.prog 33 #[v] w fun e w' => e = .returned (.tuple #[]) ∧ w'.ownsRow B 9 1 v l.length ((sortS l).map Value.string) ∧ Fr (fun x => v.ownBlock = some x) w w' := by
  rcases h.2 with ⟨rfl, h0⟩ | ⟨g, cap, cur, rfl, h0, hg, hc, hm, hs, ht⟩
  · have hn : l = [] := List.eq_nil_of_length_eq_zero h0
    subst hn
    refine (AnyM.slices_Sort_string_none Try.sortS none 0 w).mono ?_
    rintro e w' ⟨rfl, rfl⟩
    exact ⟨rfl, by unfold sortS; rw [List.map_nil, List.mergeSort_nil]; exact h, Fr.refl _ _⟩
  · have ht' : cur.toList.take (l.map (·.data.toList)).length = (l.map (·.data.toList)).map encStr := by rw [encS, List.length_map]; rw [Nat.mul_one] at ht; exact ht
    have hh := AnyM.slices_Sort_string Try.sortS g 0 cap (l.map (·.data.toList)) w (holds_of_block hg ht') (blk_lt hg) (by rw [List.length_map]; omega)
    rw [List.length_map] at hh
    refine hh.mono ?_
    rintro e w' ⟨rfl, n, os, rfl⟩
    refine ⟨rfl, ?_, Fr.grown (o := some g) (grownBy_sorted _)⟩
    have := ownsRow_sorted (w := w) (n := n) (os := os) (ss := l.map (·.data.toList)) (ts := (l.map (·.data.toList)).mergeSort fun x y => decide (x ≤ y)) (List.length_mergeSort _) h0 hg (by rw [List.length_map]; exact hc) hm hs
    rw [List.length_map, encS'] at this
    exact this
end
section
variable {P : Program} {K e t : TypeId} {w : World} {mb : Nat} {f : ByteArray → Option Value}
theorem MapIs.ownsS (h : MapIs Value.string w mb f) (hK : P.underlying K = some .string) (ht : P.underlying t = some (.map K e)) {z : Value} (hz : ∀ w, (zeroValue e).run P w = .ok z w) (hw : ∀ k, (f k).isSome = true → k.size ≤ maxLen) {l : List ByteArray} (hn : l.Nodup) (hl : ∀ k, k ∈ l ↔ (f k).isSome = true) (hmax : l.length ≤ maxLen) :
    ∃ D0 : DataW Unit, w.ownsMap P K (fun _ => some (.nil, [])) mb l.length D0 ∧ (l.map (·.data.toList)).Perm (strKeys D0) ∧ Maps.size D0 ≤ l.length := by
  obtain ⟨es, c, hm, hsz⟩ := h.count (kl_str hK) hn hl
  have h' := h
  obtain ⟨es', c', hm', hs, h1, h2⟩ := h
  rw [hm] at hm'
  injection hm' with hm'
  injection hm' with e1 e2
  subst e1; subst e2
  have hkey : ∀ k, (f k).isSome = true → keyOf P K (.string k) = some (.string k.data.toList) := fun k hk => WideMaps.keyOf_string_mk hK (hw k hk)
  have hown : w.ownsMap P K (fun _ => some ((DataW.nil : DataW Unit), [])) mb l.length (.map ((es.toList.map (WideElems.rg P K (fun _ => some (.nil, [])))).foldr DataW.insert [])) :=
    ⟨es, c, hm, ⟨by omega, hs, fun x hx => by
      obtain ⟨k, a, b⟩ := h1 x hx
      exact ⟨(.string k.data.toList, .nil), by unfold WideElems.rd; rw [a, hkey k (by rw [b]; rfl)]; rfl⟩⟩, by omega, rfl⟩
  generalize (DataW.map ((es.toList.map (WideElems.rg P K (fun _ => some ((DataW.nil : DataW Unit), [])))).foldr DataW.insert [])) = D0 at hown
  have KI := Maps.string_keyed (P := P) hK
  have hhas : ∀ x, x ∈ l.map (·.data.toList) ↔ (Maps.has D0 (.string x) = true ∧ (fun _ => false : Lit → Bool) (.string x) = false) := fun x => by
    rw [List.mem_map]
    refine ⟨fun ⟨k, hk, e⟩ => ?_, fun ⟨hx, _⟩ => ?_⟩
    · subst e
      have hx := (hl k).1 hk
      refine ⟨?_, rfl⟩
      obtain ⟨v, ps, hr, _⟩ := hown.look_ok (t := t) KI ht (hz w) rfl (hkey k hx)
      have := h'.look2 (kl_str hK) ht hz k
      rw [hr] at this
      simp at this
      rw [this.2, hx]
    · obtain ⟨xs, hD, hko⟩ := hown.keysOf
      have hx' := hx
      rw [hD, Maps.has_eq, List.any_eq_true] at hx
      obtain ⟨p, hp, hs⟩ := hx
      obtain ⟨v, hv⟩ := hko p hp
      obtain ⟨y, hy1, hy2, hy3⟩ := Maps.keyOf_str hK hv
      rw [hy2] at hs hv
      obtain rfl : y = x := by simpa [Lit.sameKey] using hs
      have hyk : v = .string (mkS y) := by rw [hy1]; rfl
      subst hyk
      obtain ⟨v, ps, hr, _⟩ := hown.look_ok (t := t) KI ht (hz w) rfl hv
      have := h'.look2 (kl_str hK) ht hz (mkS y)
      rw [hr] at this
      simp at this
      exact ⟨mkS y, (hl _).2 (by rw [← this.2, hx']), data_mkS y⟩
  exact ⟨D0, hown, Collected.perm (ss := l.map (·.data.toList)) ⟨nodup_on hn fun a _ b _ e => by rw [← mkS_data a, ← mkS_data b, e], hhas⟩ hown KI hK (fun _ => rfl), hown.size_le⟩
end
end Go.Proofs.Ytoofcnehoffllaa
