/- A tree's paths: their names, how long they are; each directory has one; how many there are. -/
import Derived.Test.YtoofcnehoffllaaGreatT15
import Derived.Test.YtoofcnehoffllaaGreatP2
namespace Go.Proofs.YtoofcnehoffllaaGreat
open Go.RowKit

def dirB (M : TM) (j : Nat) : Int := if isDir M j then 1 else 0
theorem dirB_bd (M : TM) (j : Nat) : 0 ≤ dirB M j ∧ dirB M j ≤ 1 := by unfold dirB; split <;> omega
theorem longN_append (l m : List ByteArray) : longN (l ++ m) = longN l + longN m := by unfold longN; rw [List.map_append, List.sum_append]
theorem longN_cons (s : ByteArray) (l : List ByteArray) : longN (s :: l) = 1 + (s.size : Int) + longN l := by unfold longN; rw [List.map_cons, List.sum_cons]
theorem longN_len (l : List ByteArray) : (l.length : Int) ≤ longN l := by
  induction l with
  | nil => simp [longN]
  | cons s l ih => rw [longN_cons, List.length_cons]; omega
theorem longN_slashed (l : List ByteArray) : ((slashed l).length : Int) = longN l := by
  induction l with
  | nil => rfl
  | cons s l ih =>
    have hs := Lib.size_eq s
    rw [longN_cons, ← ih, show slashed (s :: l) = (47 :: s.data.toList) ++ slashed l by simp [slashed], List.length_append, List.length_cons]
    omega
theorem path_size (l : List ByteArray) (d : Bool) : ((pathS l d).size : Int) = longN l + if d then 1 else 0 := by
  unfold pathS
  rw [Lib.size_eq, data_mkS, List.length_append]
  have := longN_slashed l
  cases d <;> simp <;> omega
/-- Names are names; no path that is told is too long. -/
structure TS (M : TM) : Prop where
  nam : ∀ p s j, entN M p s = some j → nameE s.data.toList = 0
  short : ∀ l j, l ≠ [] → goE (entN M) 2 l = some j → longN l + dirB M j ≤ 255
section
variable {M : TM} {cap : Nat}
theorem TS.names (h : TS M) : ∀ {l : List ByteArray} {i j : Nat}, goE (entN M) i l = some j → NamesOk l
  | [], _, _, _ => fun x hx => by cases hx
  | s :: l, i, j, hg => by
    have hg : ((entN M i s).bind fun j => goE (entN M) j l) = some j := hg
    cases he : entN M i s with
    | none => rw [he] at hg; cases hg
    | some k =>
      rw [he] at hg
      have ih := TS.names h (l := l) (i := k) (j := j) hg
      intro x hx
      rcases List.mem_cons.1 hx with rfl | hx
      · exact h.nam i x k he
      · exact ih x hx
theorem TS.len (h : TS M) {l : List ByteArray} {j : Nat} (hg : goE (entN M) 2 l = some j) : longN l ≤ 255 ∧ l.length ≤ 255 := by
  have h1 := longN_len l
  by_cases he : l = []
  · subst he; exact ⟨by decide, by decide⟩
  · have := h.short l j he hg
    have := (dirB_bd M j).1
    omega
theorem TS.size (h : TS M) {l : List ByteArray} {j : Nat} (hl : l ≠ []) (hg : goE (entN M) 2 l = some j) : (pathS l (isDir M j)).size ≤ 255 := by
  have := h.short l j hl hg
  have h2 := path_size l (isDir M j)
  unfold dirB at this
  omega
theorem snoc_cases {α : Type} (l : List α) : l = [] ∨ ∃ r s, l = r ++ [s] := by
  by_cases he : l = []
  · exact .inl he
  · exact .inr ⟨l.dropLast, l.getLast he, (List.dropLast_concat_getLast he).symm⟩
theorem TG.uniq (h : TG M cap) : ∀ (n : Nat) (l l' : List ByteArray) (i : Nat), l.length ≤ n → isDir M i = true → goE (entN M) 2 l = some i → goE (entN M) 2 l' = some i → l = l' := by
  intro n
  induction n with
  | zero =>
    intro l l' i hl hd h1 h2
    have : l = [] := List.eq_nil_of_length_eq_zero (by omega)
    subst this
    injection h1 with h1
    subst h1
    rcases snoc_cases l' with rfl | ⟨r, s, rfl⟩
    · rfl
    · obtain ⟨p, _, hp⟩ := goE_snoc.1 h2
      exact absurd hp (h.noroot p s)
  | succ n ih =>
    intro l l' i hl hd h1 h2
    rcases snoc_cases l with rfl | ⟨r, s, rfl⟩
    · injection h1 with h1
      subst h1
      rcases snoc_cases l' with rfl | ⟨r, s, rfl⟩
      · rfl
      · obtain ⟨p, _, hp⟩ := goE_snoc.1 h2
        exact absurd hp (h.noroot p s)
    · obtain ⟨p, hp, hs⟩ := goE_snoc.1 h1
      rcases snoc_cases l' with rfl | ⟨r', s', rfl⟩
      · injection h2 with h2
        subst h2
        exact absurd hs (h.noroot p s)
      · obtain ⟨p', hp', hs'⟩ := goE_snoc.1 h2
        have hlk := ((h.lk i (h.ok.ent p s i hs)).2.2 hd).1
        obtain ⟨rfl, rfl⟩ := h.one hlk hs hs'
        have := ih r r' p' (by rw [List.length_append] at hl; simp at hl; omega) (ent_dir hs) hp hp'
        rw [this]
theorem countP_add {α : Type} {p q r : α → Bool} : ∀ {L : List α}, (∀ x ∈ L, p x = true → q x = true ∨ r x = true) → L.countP p ≤ L.countP q + L.countP r
  | [], _ => by simp
  | x :: L, h => by
    have ih := countP_add (L := L) fun y hy => h y (List.mem_cons_of_mem _ hy)
    rw [List.countP_cons, List.countP_cons, List.countP_cons]
    have hx := h x List.mem_cons_self
    by_cases hp : p x = true
    · rcases hx hp with hq | hr
      · rw [if_pos hp, if_pos hq]; omega
      · rw [if_pos hp, if_pos hr]; omega
    · rw [if_neg hp]; omega
theorem TG.names_le (h : TG M cap) (hc : cap ≤ 201) {L : List (Nat × ByteArray)} (hL : Names (entN M) L) (hl : ∀ i, (M i).isSome = true → i ≠ 2 → lkN M i = numL (entN M) L i) : L.length ≤ 20100 := by
  have hi : ∀ i, numL (entN M) L i ≤ 100 := fun i => by
    by_cases hm : (M i).isSome = true
    · by_cases h2 : i = 2
      · subst h2
        have : numL (entN M) L 2 = 0 := by
          unfold numL
          rw [List.countP_eq_zero]
          intro x _
          have := h.noroot x.1 x.2
          simp [this]
        omega
      · have := hl i hm h2
        have := (h.lk i hm).2.1
        omega
    · have : numL (entN M) L i = 0 := by
        unfold numL
        rw [List.countP_eq_zero]
        intro x _ hx
        have hx : entN M x.1 x.2 = some i := by simpa using hx
        exact hm (h.ok.ent _ _ _ hx)
      omega
  have hn : ∀ n, L.countP (fun x => match entN M x.1 x.2 with | some i => decide (i < n) | none => false) ≤ 100 * n := by
    intro n
    induction n with
    | zero =>
      rw [List.countP_eq_zero.2]
      · omega
      · intro x _
        cases entN M x.1 x.2 with
        | none => simp
        | some i => simp
    | succ n ih =>
      have := countP_add (L := L) (p := fun x => match entN M x.1 x.2 with | some i => decide (i < n + 1) | none => false) (q := fun x => match entN M x.1 x.2 with | some i => decide (i < n) | none => false) (r := fun x => entN M x.1 x.2 == some n) fun x _ hx => by
        cases he : entN M x.1 x.2 with
        | none => rw [he] at hx; cases hx
        | some i =>
          rw [he] at hx
          have hx : i < n + 1 := by simpa using hx
          by_cases e : i = n
          · right; simp [e]
          · left; simp; omega
      have h2 := hi n
      unfold numL at h2
      omega
  have h1 := hn 201
  have : L.countP (fun x => match entN M x.1 x.2 with | some i => decide (i < 201) | none => false) = L.length := by
    rw [List.countP_eq_length]
    intro x hx
    obtain ⟨i, he⟩ := Option.isSome_iff_exists.1 ((hL.2 x).1 hx)
    rw [he]
    have := (low_some h.ok (h.ok.ent _ _ _ he)).2
    simp; omega
  omega
theorem nodup_on {α β : Type} {g : α → β} : ∀ {l : List α}, l.Nodup → (∀ a ∈ l, ∀ b ∈ l, g a = g b → a = b) → (l.map g).Nodup
  | [], _, _ => List.nodup_nil
  | x :: l, h, hg => by
    rw [List.nodup_cons] at h
    rw [List.map_cons, List.nodup_cons]
    refine ⟨fun hm => ?_, nodup_on h.2 fun a ha b hb => hg a (List.mem_cons_of_mem _ ha) b (List.mem_cons_of_mem _ hb)⟩
    obtain ⟨y, hy, e⟩ := List.mem_map.1 hm
    have := hg y (List.mem_cons_of_mem _ hy) x List.mem_cons_self e
    exact h.1 (by rw [← this]; exact hy)
theorem nodup_le {α : Type} : ∀ {l m : List α}, l.Nodup → (∀ x ∈ l, x ∈ m) → l.length ≤ m.length
  | [], _, _, _ => Nat.zero_le _
  | x :: l, m, h, hs => by
    rw [List.nodup_cons] at h
    obtain ⟨a, b, hm⟩ := List.append_of_mem (hs x List.mem_cons_self)
    have := nodup_le (l := l) (m := a ++ b) h.2 fun y hy => by
      have := hs y (List.mem_cons_of_mem _ hy)
      rw [hm] at this
      rcases List.mem_append.1 this with h1 | h1
      · exact List.mem_append_left _ h1
      · rcases List.mem_cons.1 h1 with rfl | h1
        · exact absurd hy h.1
        · exact List.mem_append_right _ h1
    rw [hm]
    simp at this ⊢
    omega
/-- The name that a path ends with: whose it is, and which. -/
def lastOf (M : TM) (l : List ByteArray) : Nat × ByteArray := ((goE (entN M) 2 l.dropLast).getD 0, l.getLast?.getD ⟨#[]⟩)
theorem last_snoc {r : List ByteArray} {s : ByteArray} {p : Nat} (h : goE (entN M) 2 r = some p) : lastOf M (r ++ [s]) = (p, s) := by
  unfold lastOf
  rw [List.dropLast_concat, h, List.getLast?_concat]; rfl
theorem TG.last_inj (h : TG M cap) {l m : List ByteArray} (hl : l ≠ [] ∧ (goE (entN M) 2 l).isSome = true) (hm : m ≠ [] ∧ (goE (entN M) 2 m).isSome = true) (e : lastOf M l = lastOf M m) : l = m := by
  rcases snoc_cases l with rfl | ⟨r, s, rfl⟩
  · exact absurd rfl hl.1
  · rcases snoc_cases m with rfl | ⟨r', s', rfl⟩
    · exact absurd rfl hm.1
    · obtain ⟨i, hi⟩ := Option.isSome_iff_exists.1 hl.2
      obtain ⟨j, hj⟩ := Option.isSome_iff_exists.1 hm.2
      obtain ⟨p, hp, hs⟩ := goE_snoc.1 hi
      obtain ⟨p', hp', hs'⟩ := goE_snoc.1 hj
      rw [last_snoc hp, last_snoc hp'] at e
      injection e with e1 e2
      subst e1 e2
      rw [h.uniq r.length r r' p (Nat.le_refl _) (ent_dir hs) hp hp']
theorem last_in {l : List ByteArray} {L : List (Nat × ByteArray)} (hL : Names (entN M) L) (hl : l ≠ [] ∧ (goE (entN M) 2 l).isSome = true) : lastOf M l ∈ L := by
  rcases snoc_cases l with rfl | ⟨r, s, rfl⟩
  · exact absurd rfl hl.1
  · obtain ⟨i, hi⟩ := Option.isSome_iff_exists.1 hl.2
    obtain ⟨p, hp, hs⟩ := goE_snoc.1 hi
    rw [last_snoc hp]
    exact (hL.2 _).2 (by rw [hs]; rfl)
/-- Paths, each once: not too many. -/
theorem TG.paths_le (h : TG M cap) (hc : cap ≤ 201) {PL : List (List ByteArray)} (hn : PL.Nodup) (hp : ∀ l ∈ PL, l ≠ [] ∧ (goE (entN M) 2 l).isSome = true) : PL.length ≤ 20100 := by
  obtain ⟨L, hL, hl⟩ := h.nms
  have h1 := nodup_le (nodup_on hn fun a ha b hb e => h.last_inj (hp a ha) (hp b hb) e) (m := L) fun x hx => by
    obtain ⟨l, hl, rfl⟩ := List.mem_map.1 hx
    exact last_in hL (hp l hl)
  rw [List.length_map] at h1
  have := h.names_le hc hL hl
  omega
/-- How many bytes the longest path below a node has more than its own. -/
def DeepIs (M : TM) (i : Nat) (D : Int) : Prop := (∃ l j, goE (entN M) i l = some j ∧ D = longN l + dirB M j) ∧ ∀ l j, goE (entN M) i l = some j → longN l + dirB M j ≤ D
theorem DeepIs.eq {i : Nat} {D D' : Int} (h : DeepIs M i D) (h' : DeepIs M i D') : D = D' := by
  obtain ⟨⟨l, j, h1, h2⟩, h3⟩ := h
  obtain ⟨⟨l', j', h1', h2'⟩, h3'⟩ := h'
  have := h3 l' j' h1'
  have := h3' l j h1
  omega
/-- All paths below a node, each once. -/
def BelowIs (M : TM) (i : Nat) (LL : List (List ByteArray)) : Prop := LL.Nodup ∧ ∀ l, l ∈ LL ↔ l ≠ [] ∧ (goE (entN M) i l).isSome = true
/-- A path's text. -/
def pathAt (M : TM) (l : List ByteArray) : ByteArray := pathS l (match goE (entN M) 2 l with | some j => isDir M j | none => false)
theorem pathAt_of {l : List ByteArray} {j : Nat} (h : goE (entN M) 2 l = some j) : pathAt M l = pathS l (isDir M j) := by unfold pathAt; rw [h]
end
end Go.Proofs.YtoofcnehoffllaaGreat
