/- Paths of names, plainly: what they are split to. -/
import Derived.Test.YtoofcnehoffllaaGreatP1
namespace Go.Proofs.YtoofcnehoffllaaGreat
open Go.RowKit

theorem firstE_good : ∀ l : List ByteArray, (∀ x ∈ l, nameE x.data.toList = 0) → firstE l = 0
  | [], _ => rfl
  | x :: r, h => by
    rw [firstE, if_pos (h x List.mem_cons_self)]
    exact firstE_good r fun y hy => h y (List.mem_cons_of_mem _ hy)
theorem firstE_name {l : List ByteArray} (h : firstE l = 0) : ∀ x ∈ l, nameE x.data.toList = 0 := by
  induction l with
  | nil => intro x hx; cases hx
  | cons y r ih =>
    intro x hx
    rw [firstE] at h
    by_cases hy : nameE y.data.toList = 0
    · rw [if_pos hy] at h
      rcases List.mem_cons.1 hx with rfl | hx
      · exact hy
      · exact ih h x hx
    · rw [if_neg hy] at h; exact absurd h hy
theorem nameE_len {l : List UInt8} (h : nameE l = 0) : l.length ≤ 14 ∧ l ≠ [] ∧ ∀ x ∈ l, x ≠ 47 := by
  unfold nameE at h
  split at h
  · cases h
  · rename_i hl
    split at h
    · cases h
    · rename_i hb
      simp only [Bool.or_eq_true, not_or] at hb
      refine ⟨by omega, ?_, fun x hx he => ?_⟩
      · intro he; subst he; simp at hb
      · subst he; exact absurd (show hasBad l = true from List.any_eq_true.2 ⟨47, hx, rfl⟩) hb.2
/-- Names, each behind a slash. -/
def slashed (l : List ByteArray) : List UInt8 := l.flatMap fun x => 47 :: x.data.toList
theorem slashed_append (l m : List ByteArray) : slashed (l ++ m) = slashed l ++ slashed m := List.flatMap_append ..
theorem slashed_one (x : ByteArray) : slashed [x] = 47 :: x.data.toList := by simp [slashed]
theorem fieldsB_slashed (t : List UInt8) (ht : ∀ cur, fieldsB cur t = if cur = [] then [] else [cur]) : ∀ (l : List ByteArray) (cur : List UInt8), (∀ x ∈ l, x.data.toList ≠ [] ∧ ∀ y ∈ x.data.toList, y ≠ 47) →
    fieldsB cur (slashed l ++ t) = if cur = [] then l.map (·.data.toList) else cur :: l.map (·.data.toList)
  | [], cur, _ => by rw [show slashed [] ++ t = t from rfl, ht]; rfl
  | x :: r, cur, h => by
    obtain ⟨h1, h2⟩ := h x (by simp)
    have hs : slashed (x :: r) ++ t = 47 :: (x.data.toList ++ (slashed r ++ t)) := by simp [slashed]
    have ih := fieldsB_slashed t ht r x.data.toList fun y hy => h y (by simp [hy])
    rw [if_neg h1] at ih
    rw [hs, fieldsB_slash, fieldsB_run _ _ _ h2, List.nil_append, ih]
    rfl
theorem map_mkS_data (l : List ByteArray) : (l.map (·.data.toList)).map mkS = l := by
  rw [List.map_map]; conv => rhs; rw [← List.map_id l]
  exact List.map_congr_left fun x _ => mkS_data x
/-- The path of names, of a directory or not. -/
def pathS (l : List ByteArray) (d : Bool) : ByteArray := mkS (slashed l ++ if d then [47] else [])
def NamesOk (l : List ByteArray) : Prop := ∀ x ∈ l, nameE x.data.toList = 0
theorem slashed_last {l : List ByteArray} (h : NamesOk l) (he : l ≠ []) : (slashed l).getLast? ≠ some 47 := by
  obtain ⟨r, x, rfl⟩ : ∃ r x, l = r ++ [x] := ⟨l.dropLast, l.getLast he, (List.dropLast_concat_getLast he).symm⟩
  obtain ⟨_, g1, g2⟩ := nameE_len (h x (by simp))
  intro hg
  have hs : slashed (r ++ [x]) = slashed r ++ [47] ++ x.data.toList := by simp [slashed]
  rw [hs, List.getLast?_append] at hg
  obtain ⟨t, y, hty⟩ : ∃ t y, x.data.toList = t ++ [y] := ⟨x.data.toList.dropLast, x.data.toList.getLast g1, (List.dropLast_concat_getLast g1).symm⟩
  rw [hty] at hg
  simp at hg
  exact g2 y (by rw [hty]; simp) hg
theorem path_split {l : List ByteArray} {d : Bool} (h : NamesOk l) (he : l ≠ []) (hs : (pathS l d).size ≤ 255) : splitE (pathS l d) = 0 ∧ splitN (pathS l d) = l ∧ splitD (pathS l d) = d := by
  have hL : splitL (pathS l d) = l := by
    unfold splitL pathS
    rw [data_mkS, fieldsB_slashed (if d then [47] else []) (fun cur => by cases d; exact fieldsB_last cur; show fieldsB cur [47] = _; rw [fieldsB_slash]; split <;> rfl) l [] (fun x hx => (nameE_len (h x hx)).2), if_pos rfl, map_mkS_data]
  have hE : splitE (pathS l d) = 0 := by
    unfold splitE
    rw [hL, if_neg (by omega), firstE_good l h, if_pos]
    unfold pathS
    rw [data_mkS]
    cases l with
    | nil => exact absurd rfl he
    | cons x r => rfl
  refine ⟨hE, by unfold splitN; rw [if_pos hE, hL], ?_⟩
  unfold splitD
  rw [hE, decide_eq_true rfl, Bool.true_and]
  unfold pathS
  rw [data_mkS]
  cases d with
  | true => simp
  | false =>
    show ((slashed l ++ []).getLast? == some 47) = false
    rw [List.append_nil, beq_eq_false_iff_ne]
    exact slashed_last h he
theorem path_inj {l m : List ByteArray} {d c : Bool} (h : NamesOk l) (he : l ≠ []) (h' : NamesOk m) (he' : m ≠ []) (hs : (pathS l d).size ≤ 255) (e : pathS l d = pathS m c) : l = m ∧ d = c := by
  obtain ⟨_, a1, a2⟩ := path_split h he hs
  obtain ⟨_, b1, b2⟩ := path_split h' he' (by rw [← e]; exact hs)
  rw [e] at a1 a2
  exact ⟨by rw [← a1, b1], by rw [← a2, b2]⟩
def costs (l : List (List UInt8)) : Nat := (l.map fun x => x.length + 1).sum
theorem costs_fields : ∀ (r cur : List UInt8), costs (fieldsB cur r) ≤ cur.length + r.length + 1
  | [], cur => by
    rw [fieldsB_last]
    split
    · simp [costs]
    · simp [costs]
  | x :: r, cur => by
    by_cases hx : x = 47
    · subst hx
      rw [fieldsB_slash]
      have := costs_fields r []
      split
      · simp at this ⊢; omega
      · simp [costs] at this ⊢; omega
    · have := costs_fields r (cur ++ [x])
      rw [fieldsB, if_neg hx]
      simp at this ⊢; omega
theorem slashed_length (l : List ByteArray) : (slashed l).length = costs (l.map (·.data.toList)) := by
  induction l with
  | nil => rfl
  | cons x r ih => simp only [slashed, costs, List.flatMap_cons, List.length_append, List.length_cons, List.map_cons, List.sum_cons] at ih ⊢; omega
theorem map_data_mkS (l : List (List UInt8)) : (l.map mkS).map (·.data.toList) = l := by
  rw [List.map_map]; conv => rhs; rw [← List.map_id l]
  exact List.map_congr_left fun x _ => data_mkS x
/-- A path's names, joined, are no longer than the path. -/
theorem slashed_split {s : ByteArray} (h : splitE s = 0) : (slashed (splitN s)).length ≤ s.size ∧ s.size ≤ 255 ∧ NamesOk (splitN s) := by
  have hN : splitN s = splitL s := by unfold splitN; rw [if_pos h]
  unfold splitE at h
  split at h
  · cases h
  · rename_i hb
    split at h
    · rename_i hh
      rw [hN]
      refine ⟨?_, by omega, firstE_name h⟩
      rw [slashed_length]
      unfold splitL
      rw [map_data_mkS]
      have hsz := Lib.size_eq s
      cases hl : s.data.toList with
      | nil => rw [hl] at hh; cases hh
      | cons x r =>
        rw [hl] at hh hsz
        have hx : x = 47 := by simpa using hh
        subst hx
        rw [fieldsB_slash, if_pos rfl]
        have := costs_fields r []
        rw [List.length_cons] at hsz
        simp at this
        omega
    · cases h
end Go.Proofs.YtoofcnehoffllaaGreat
