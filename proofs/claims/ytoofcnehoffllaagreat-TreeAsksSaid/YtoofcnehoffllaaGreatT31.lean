/- The calls at paths of names: what they come to. -/
import Derived.Test.YtoofcnehoffllaaGreatT30
namespace Go.Proofs.YtoofcnehoffllaaGreat
open Go.RowKit

theorem sizedN_bytes {d : List Int} {k : Nat} (h : ∀ x ∈ d, 0 ≤ x ∧ x < 256) : ∀ x ∈ sizedN d k, 0 ≤ x ∧ x < 256 := fun x hx => by
  unfold sizedN at hx
  rcases List.mem_append.1 (List.mem_of_mem_take hx) with hx | hx
  · exact h x hx
  · rw [List.eq_of_mem_replicate hx]; omega
theorem wrData_ok {d x : List Int} {p : Nat} (hd : d.length ≤ 38400 ∧ ∀ y ∈ d, 0 ≤ y ∧ y < 256) (hx : ∀ y ∈ x, 0 ≤ y ∧ y < 256) (hp : p + x.length ≤ 38400) : (wrData d p x).length ≤ 38400 ∧ ∀ y ∈ wrData d p x, 0 ≤ y ∧ y < 256 := by
  unfold wrData
  refine ⟨by rw [length_splice _ _ _ (by rw [sizedN_length]; omega), sizedN_length]; omega, fun y hy => ?_⟩
  unfold splice at hy
  rcases List.mem_append.1 hy with hy | hy
  · exact sizedN_bytes hd.2 y (List.mem_of_mem_take hy)
  · rcases List.mem_append.1 hy with hy | hy
    · exact hx y hy
    · exact sizedN_bytes hd.2 y (List.mem_of_mem_drop hy)
section
variable {M : TM} {cap : Nat}
theorem look_some (h : TG M cap) {s : ByteArray} {i : Nat} (hq : lookN M s = .inl i) : (M i).isSome = true := by
  unfold lookN at hq
  split at hq
  · cases hq
  · cases hq2 : leadN M 2 (splitN s) with
    | inr e => rw [hq2] at hq; cases hq
    | inl j =>
      rw [hq2] at hq
      have hq : (if splitD s && !isDir M j then (.inr 20 : Nat ⊕ Int) else .inl j) = .inl i := hq
      split at hq
      · cases hq
      · injection hq with hq
        subst hq
        exact lead_there h.ok _ 2 j h.ok.root_there hq2
theorem Good.write (h : Good M cap) (s : ByteArray) (at_ : Int) {x : List Int} (hx : ∀ y ∈ x, 0 ≤ y ∧ y < 256) : Good (writeN M s at_ x).2 cap := by
  unfold writeN
  cases hq : fileN M s with
  | inr c => exact h
  | inl i =>
    dsimp only
    obtain ⟨hl, hd⟩ := file_in hq
    by_cases h1 : at_ < 0 ∨ 4096 < x.length
    · rw [if_pos h1]; exact h
    · rw [if_neg h1]
      by_cases h2 : 38400 - (x.length : Int) < at_
      · rw [if_pos h2]; exact h
      · rw [if_neg h2]
        by_cases h3 : x.length = 0
        · rw [if_pos h3]; exact h
        · rw [if_neg h3]
          have := wrData_ok (p := at_.toNat) (h.1.byt i) hx (by omega)
          exact h.data (look_some h.1 hl) hd this.1 this.2
theorem Good.trunc (h : Good M cap) (s : ByteArray) (k : Int) : Good (truncN M s k).2 cap := by
  unfold truncN
  cases hq : fileN M s with
  | inr c => exact h
  | inl i =>
    dsimp only
    obtain ⟨hl, hd⟩ := file_in hq
    by_cases h1 : k < 0
    · rw [if_pos h1]; exact h
    · rw [if_neg h1]
      by_cases h2 : 38400 < k
      · rw [if_pos h2]; exact h
      · rw [if_neg h2]
        exact h.data (look_some h.1 hl) hd (by rw [sizedN_length]; omega) (sizedN_bytes (h.1.byt i).2)
theorem newM_ent (p : Nat) (s : ByteArray) : entN newM p s = none := by
  unfold entN newM
  by_cases e : p = 2
  · rw [if_pos e]
  · rw [if_neg e]
theorem newM_full {cap : Nat} (hc : 5 ≤ cap) : Good newM cap := by
  refine ⟨newM_good hc, ⟨fun p s j hs => (by rw [newM_ent] at hs; cases hs), fun l j hl hg => ?_⟩⟩
  rcases snoc_cases l with rfl | ⟨r, t, rfl⟩
  · exact absurd rfl hl
  · obtain ⟨q, _, hq⟩ := goE_snoc.1 hg
    rw [newM_ent] at hq; cases hq
/-- A path of names: its parts. -/
theorem par_path {l : List ByteArray} {x : ByteArray} {d : Bool} (h : NamesOk (l ++ [x])) (hs : (pathS (l ++ [x]) d).size ≤ 255) : parE (pathS (l ++ [x]) d) = 0 ∧ parN (pathS (l ++ [x]) d) = l ∧ parL (pathS (l ++ [x]) d) = x := by
  obtain ⟨h0, h1, h2⟩ := path_split h (by simp) hs
  have hE : parE (pathS (l ++ [x]) d) = 0 := by unfold parE; rw [if_pos h0, if_neg (by rw [h1]; simp)]
  refine ⟨hE, ?_, ?_⟩
  · unfold parN
    rw [if_pos hE, h1]; simp
  · unfold parL
    rw [if_pos hE, h1]; simp
theorem look_path {l : List ByteArray} {d : Bool} (h : NamesOk l) (hl : l ≠ []) (hs : (pathS l d).size ≤ 255) : lookN M (pathS l d) = match leadN M 2 l with
    | .inr e => .inr e
    | .inl i => if d && !isDir M i then .inr 20 else .inl i := by
  obtain ⟨h0, h1, h2⟩ := path_split h hl hs
  unfold lookN
  rw [if_neg (by rw [h0]; simp), h1, h2]
  cases leadN M 2 l <;> rfl
/-- A path that may be made. -/
theorem fresh_at {s : ByteArray} {l : List ByteArray} {x : ByteArray} {p : Nat} {dir : Bool} (h1 : parE s = 0) (h2 : parN s = l) (h3 : parL s = x) (hl : leadN M 2 l = .inl p) (hp : isDir M p = true) (hn : entN M p x = none) (hd : splitD s = true → dir = true) (hs : dir = true → longN (l ++ [x]) < 255) : freshC M s dir = 0 := by
  have hpc : placeC M s = 0 := by
    unfold placeC
    rw [if_neg (by rw [h1]; simp), h2, hl]
    dsimp only
    rw [if_pos hp]
  unfold freshC
  rw [if_neg (by rw [hpc]; simp), h2, hl, h3]
  dsimp only
  rw [hn]
  cases dir with
  | true =>
    have := hs rfl
    rw [decide_eq_false (by omega)]
    simp
  | false =>
    cases hsd : splitD s with
    | true => have := hd hsd; cases this
    | false => rfl
theorem make_at {s : ByteArray} {l : List ByteArray} {x : ByteArray} {p : Nat} {dir : Bool} (h1 : parE s = 0) (h2 : parN s = l) (h3 : parL s = x) (hl : leadN M 2 l = .inl p) (hp : isDir M p = true) (hn : entN M p x = none) (hd : splitD s = true → dir = true) (hs : dir = true → longN (l ++ [x]) < 255) :
    makeN M cap s dir = match leastN M cap cap 2 with
      | none => (0, 23, M)
      | some i => ((i : Int), 0, addM M i (freshNd dir) p x) := by
  unfold makeN
  rw [if_neg (by rw [fresh_at h1 h2 h3 hl hp hn hd hs]; simp), h2, hl, h3]
  rfl
/-- A path that is there is not made. -/
theorem make_there {s : ByteArray} {l : List ByteArray} {x : ByteArray} {p j : Nat} {dir : Bool} (h1 : parE s = 0) (h2 : parN s = l) (h3 : parL s = x) (hl : leadN M 2 l = .inl p) (hp : isDir M p = true) (hn : entN M p x = some j) : makeN M cap s dir = (0, 17, M) := by
  have : freshC M s dir = 17 := by
    have hpc : placeC M s = 0 := by
      unfold placeC
      rw [if_neg (by rw [h1]; simp), h2, hl]
      dsimp only
      rw [if_pos hp]
    unfold freshC
    rw [if_neg (by rw [hpc]; simp), h2, hl, h3]
    dsimp only
    rw [hn]; rfl
  unfold makeN
  rw [this]; rfl
theorem gone_at {s : ByteArray} {l : List ByteArray} {x : ByteArray} {p i : Nat} {dir : Bool} (h1 : parE s = 0) (h2 : parN s = l) (h3 : parL s = x) (hl : leadN M 2 l = .inl p) (he : entN M p x = some i) (hw : wrongN M i dir = 0) (hd : splitD s = true → isDir M i = true) : goneN M s dir = (0, dropT M p x i) := by
  obtain ⟨h0, hs⟩ := par_split h1
  have hlk : lookN M s = .inl i := by
    unfold lookN
    rw [if_neg (by rw [h0]; simp), hs, h2, h3, (lead_goE (l ++ [x]) 2 i).2 (goE_snoc.2 ⟨p, (lead_goE _ _ _).1 hl, he⟩)]
    dsimp only
    rw [if_neg]
    intro hh
    simp only [Bool.and_eq_true, Bool.not_eq_true'] at hh
    rw [hd hh.1] at hh
    exact absurd hh.2 (by decide)
  unfold goneN
  rw [if_neg (by rw [h1]; simp), hlk]
  dsimp only
  rw [if_neg (by rw [hw]; simp), h2, hl, h3]
/-- A path that leads nowhere. -/
theorem gone_none {s : ByteArray} {l : List ByteArray} {x : ByteArray} {p : Nat} {dir : Bool} (h1 : parE s = 0) (h2 : parN s = l) (h3 : parL s = x) (hl : leadN M 2 l = .inl p) (hp : isDir M p = true) (he : entN M p x = none) : goneN M s dir = (2, M) := by
  obtain ⟨h0, hs⟩ := par_split h1
  have hlead : ∀ (l : List ByteArray) (i : Nat), leadN M i l = .inl p → leadN M i (l ++ [x]) = .inr 2 := by
    intro l
    induction l with
    | nil =>
      intro i hi
      injection hi with hi
      subst hi
      show leadN M i (x :: []) = _
      rw [lead_step, if_pos hp, he]
    | cons y l ih =>
      intro i hi
      rw [List.cons_append, lead_step]
      rw [lead_step] at hi
      split at hi
      · rename_i hd
        rw [if_pos hd]
        cases hq : entN M i y with
        | none => exact absurd (by rw [hq] at hi; exact hi : (Sum.inr 2 : Nat ⊕ Int) = .inl p) (by intro e; cases e)
        | some j => rw [hq] at hi; exact ih j hi
      · cases hi
  unfold goneN
  rw [if_neg (by rw [h1]; simp)]
  have : lookN M s = .inr 2 := by
    unfold lookN
    rw [if_neg (by rw [h0]; simp), hs, h2, h3, hlead l 2 hl]
  rw [this]
theorem link_at {old s : ByteArray} {l : List ByteArray} {x : ByteArray} {p i : Nat} (h0 : splitE old = 0) (h1 : parE s = 0) (h2 : parN s = l) (h3 : parL s = x) (ho : lookN M old = .inl i) (hd : isDir M i = false) (hl : leadN M 2 l = .inl p) (hp : isDir M p = true) (hn : entN M p x = none) (hsd : splitD s = false) :
    linkN M old s = if lkN M i = 100 then (31, M) else (0, linkM M p x i) := by
  unfold linkN
  rw [if_neg (by rw [h0]; simp), if_neg (by rw [h1]; simp), ho]
  dsimp only
  rw [hd, if_neg (by decide), if_neg (by rw [fresh_at (dir := false) h1 h2 h3 hl hp hn (fun h => by rw [hsd] at h; cases h) (fun h => by cases h)]; simp), h2, hl, h3]
theorem least_eq : ∀ (k i j : Nat), (∀ y, i ≤ y → y < j → (M y).isSome = true) → i ≤ j → j < cap → M j = none → j < i + k → leastN M cap k i = some j
  | 0, i, j, _, _, _, _, h => by omega
  | k + 1, i, j, h, hij, hc, hn, hk => by
    show (if i < cap then (if (M i).isNone then some i else leastN M cap k (i + 1)) else none) = some j
    rw [if_pos (by omega)]
    by_cases e : i = j
    · subst e
      rw [if_pos (by rw [hn]; rfl)]
    · have := h i (Nat.le_refl _) (by omega)
      rw [if_neg (by cases hq : M i with | none => rw [hq] at this; cases this | some v => simp)]
      exact least_eq k (i + 1) j (fun y h1 h2 => h y (by omega) h2) (by omega) hc hn (by omega)
theorem least_full : ∀ (k i : Nat), (∀ y, i ≤ y → y < cap → (M y).isSome = true) → leastN M cap k i = none
  | 0, _, _ => rfl
  | k + 1, i, h => by
    show (if i < cap then (if (M i).isNone then some i else leastN M cap k (i + 1)) else none) = none
    by_cases hi : i < cap
    · rw [if_pos hi]
      have := h i (Nat.le_refl _) hi
      rw [if_neg (by cases hq : M i with | none => rw [hq] at this; cases this | some v => simp)]
      exact least_full k (i + 1) fun y h1 h2 => h y (by omega) h2
    · rw [if_neg hi]
end
end Go.Proofs.YtoofcnehoffllaaGreat
