/- Plain laws: what is read of a block that is written is what was written; no program in sight. -/
import Derived.Test.YtggfdhjckohmjaaDoorE11
import Derived.Test.YtggfdhjckohmjaaDoorE4
import Derived.Test.YtggfdhjckohmjaaDoorE12
namespace Go.Proofs.YtggfdhjckohmjaaDoor
open Go.RowKit

theorem getD_append_left (a b : List Int) (i : Nat) (h : i < a.length) : (a ++ b).getD i 0 = a.getD i 0 := by
  simp [List.getD_eq_getElem?_getD, List.getElem?_append_left h]
theorem getD_append_right (a b : List Int) (i : Nat) : (a ++ b).getD (a.length + i) 0 = b.getD i 0 := by
  simp [List.getD_eq_getElem?_getD, List.getElem?_append_right]

theorem mapBytes_get (L : List (Int × Int)) (k j : Nat) (hk : k < L.length) (hj : j < 8) : (mapBytes L).getD (8 * k + j) 0 = (b8 (L.getD k (0, 0)).1 (L.getD k (0, 0)).2).getD j 0 := by
  induction L generalizing k with
  | nil => simp at hk
  | cons p L ih =>
    have hc : mapBytes (p :: L) = b8 p.1 p.2 ++ mapBytes L := rfl
    rw [hc]
    cases k with
    | zero => rw [getD_append_left _ _ _ (by rw [b8_length]; omega)]; simp
    | succ k =>
      rw [show 8 * (k + 1) + j = (b8 p.1 p.2).length + (8 * k + j) by rw [b8_length]; omega, getD_append_right, ih k (by simpa using hk)]
      simp
theorem decI_map (L : List (Int × Int)) (h : allOkM L) (hl : L.length = 8) : decI (mapBytes L) = L := by
  refine List.ext_getElem (by rw [decI_length, hl]) fun k hk hk' => ?_
  obtain ⟨o0, o1, o2, o3⟩ := h L[k] (List.getElem_mem hk')
  have g := fun j hj => mapBytes_get L k j hk' hj
  have hd : L.getD k (0, 0) = L[k] := by simp [List.getD_eq_getElem?_getD, List.getElem?_eq_getElem hk']
  rw [hd] at g
  have g0 := g 0 (by omega); have g1 := g 1 (by omega); have g2 := g 2 (by omega); have g3 := g 3 (by omega); have g4 := g 4 (by omega); have g5 := g 5 (by omega)
  rw [Nat.add_zero] at g0
  simp only [decI, List.getElem_map, List.getElem_range, g0, g1, g2, g3, g4, g5, b8, List.getD_cons_zero, List.getD_cons_succ]
  generalize L[k] = p at *
  obtain ⟨a, v⟩ := p
  simp only at o0 o1 o2 o3 ⊢
  exact Prod.ext (by simp only; omega) (by simp only; omega)
theorem decR_map (L : List (Int × Int)) (h : allOkM L) (hl : L.length = 8) : decR (mapBytes L) = L := by
  refine List.ext_getElem (by rw [decR_length, hl]) fun k hk hk' => ?_
  obtain ⟨o0, o1, o2, o3⟩ := h L[k] (List.getElem_mem hk')
  have g := fun j hj => mapBytes_get L k j hk' hj
  have hd : L.getD k (0, 0) = L[k] := by simp [List.getD_eq_getElem?_getD, List.getElem?_eq_getElem hk']
  rw [hd] at g
  have g0 := g 0 (by omega); have g1 := g 1 (by omega); have g4 := g 4 (by omega); have g5 := g 5 (by omega)
  rw [Nat.add_zero] at g0
  simp only [decR, List.getElem_map, List.getElem_range, g0, g1, g4, g5, b8, List.getD_cons_zero, List.getD_cons_succ]
  generalize L[k] = p at *
  obtain ⟨a, v⟩ := p
  simp only at o0 o1 o2 o3 ⊢
  exact Prod.ext (by simp only; omega) (by simp only; omega)
/-- Whether 64 bytes are a block of map entries is one question, asked either way. -/
theorem readM_agree (xs : List Int) : (allOkM (decI xs) ∧ mapBytes (decI xs) = xs) ↔ (allOkM (decR xs) ∧ mapBytes (decR xs) = xs) := by
  constructor
  · rintro ⟨h1, h2⟩
    have := decR_map (decI xs) h1 (decI_length xs)
    rw [h2] at this
    rw [this]; exact ⟨h1, h2⟩
  · rintro ⟨h1, h2⟩
    have := decI_map (decR xs) h1 (decR_length xs)
    rw [h2] at this
    rw [this]; exact ⟨h1, h2⟩
theorem readM_same (xs : List Int) (h : allOkM (decI xs) ∧ mapBytes (decI xs) = xs) : decR xs = decI xs := by
  have := decR_map (decI xs) h.1 (decI_length xs)
  rwa [h.2] at this

theorem dirBytes_get (L : List DE) (h : allOkD L) (k j : Nat) (hk : k < L.length) (hj : j < 16) : (dirBytes L).getD (16 * k + j) 0 = (b16 (L.getD k nilDE).1 (L.getD k nilDE).2.data.toList).getD j 0 := by
  induction L generalizing k with
  | nil => simp at hk
  | cons p L ih =>
    have hc : dirBytes (p :: L) = b16 p.1 p.2.data.toList ++ dirBytes L := rfl
    have hbl := b16_length p.1 p.2.data.toList (okD_short (h p (List.mem_cons_self)))
    rw [hc]
    cases k with
    | zero => rw [getD_append_left _ _ _ (by omega)]; simp
    | succ k =>
      rw [show 16 * (k + 1) + j = (b16 p.1 p.2.data.toList).length + (16 * k + j) by omega, getD_append_right, ih (fun q hq => h q (List.mem_cons_of_mem _ hq)) k (by simpa using hk)]
      simp
theorem seg_dir (L : List DE) (h : allOkD L) (k : Nat) (hk : k < L.length) : seg (dirBytes L) k = nums (L.getD k nilDE).2.data.toList ++ List.replicate (14 - (L.getD k nilDE).2.data.toList.length) 0 := by
  induction L generalizing k with
  | nil => simp at hk
  | cons p L ih =>
    have hc : dirBytes (p :: L) = b16 p.1 p.2.data.toList ++ dirBytes L := rfl
    have hs := okD_short (h p (List.mem_cons_self))
    have hbl := b16_length p.1 p.2.data.toList hs
    cases k with
    | zero =>
      simp only [seg, hc, Nat.mul_zero, Nat.zero_add, List.getD_cons_zero]
      have : b16 p.1 p.2.data.toList ++ dirBytes L = [p.1, 0] ++ ((nums p.2.data.toList ++ List.replicate (14 - p.2.data.toList.length) 0) ++ dirBytes L) := by simp [b16]
      rw [this]
      show List.take 14 ((nums p.2.data.toList ++ List.replicate (14 - p.2.data.toList.length) 0) ++ dirBytes L) = _
      have hlen : (nums p.2.data.toList ++ List.replicate (14 - p.2.data.toList.length) 0).length = 14 := by simp only [List.length_append, nums, List.length_map, List.length_replicate]; omega
      rw [List.take_append_of_le_length (by omega), List.take_of_length_le (by omega)]
    | succ k =>
      have := ih (fun q hq => h q (List.mem_cons_of_mem _ hq)) k (by simpa using hk)
      simp only [List.getD_cons_succ]
      rw [← this]
      simp only [seg, hc]
      rw [show 16 * (k + 1) + 2 = (b16 p.1 p.2.data.toList).length + (16 * k + 2) by omega, List.drop_append, List.drop_of_length_le (by omega), List.nil_append, Nat.add_sub_cancel_left]
theorem okD_noNul {ino : Int} {l : List UInt8} (h : okD ino l) : ∀ b ∈ l, b ≠ 0 := by
  rcases h with ⟨_, rfl⟩ | ⟨_, _, h⟩
  · simp
  · intro b hb e
    subst e
    have hbad : hasBad l = true := List.any_eq_true.2 ⟨0, hb, rfl⟩
    unfold nameE at h
    rw [hbad] at h
    simp at h
    split at h <;> cases h
theorem trimS_nums (l : List UInt8) (hl : l.length ≤ 14) (h : ∀ b ∈ l, b ≠ 0) : trimS (nums l ++ List.replicate (14 - l.length) 0) = ⟨l.toArray⟩ := by
  have hn : (nums l).length = l.length := by simp [nums]
  have hg : ∀ j, (nums l ++ List.replicate (14 - l.length) 0).getD j 0 = ((l[j]?).map fun b => (b.toNat : Int)).getD 0 := by
    intro j
    rw [List.getD_eq_getElem?_getD]
    by_cases hj : j < l.length
    · rw [List.getElem?_append_left (by omega)]; simp [nums]
    · rw [List.getElem?_append_right (by omega), List.getElem?_eq_none (by omega : l.length ≤ j)]
      rw [List.getElem?_replicate]; split <;> rfl
  rw [← trimS_take (n := l.length) (by simp [nums]; omega) ?_ hl ?_ ?_]
  · rw [List.take_append_of_le_length (by omega), List.take_of_length_le (by omega)]
    have := strOfNums_nums ⟨l.toArray⟩
    simpa using this
  · intro j; rw [hg]
    cases l[j]? with
    | none => simp
    | some b => have := b.toNat_lt; simp; omega
  · intro j hj; rw [hg, List.getElem?_eq_none hj]; rfl
  · intro h0; rw [hg, List.getElem?_eq_getElem (by omega)]
    have := h l[l.length - 1] (List.getElem_mem _)
    simp only [Option.map_some, Option.getD_some]
    intro e
    exact this (UInt8.toNat_inj.1 (by show _ = 0; omega))
theorem decD_dir (L : List DE) (h : allOkD L) (hl : L.length = 4) : decD (dirBytes L) = L := by
  refine List.ext_getElem (by rw [decD_length, hl]) fun k hk hk' => ?_
  have hp := h L[k] (List.getElem_mem hk')
  have hd : L.getD k nilDE = L[k] := by simp [List.getD_eq_getElem?_getD, List.getElem?_eq_getElem hk']
  have g0 := dirBytes_get L h k 0 hk' (by omega)
  have g1 := dirBytes_get L h k 1 hk' (by omega)
  have gs := seg_dir L h k hk'
  rw [hd] at g0 g1 gs
  rw [Nat.add_zero] at g0
  simp only [decD, List.getElem_map, List.getElem_range, g0, g1, gs]
  generalize L[k] = p at *
  obtain ⟨a, v⟩ := p
  refine Prod.ext ?_ ?_
  · simp [b16]
  · simp only
    rw [trimS_nums _ (okD_short hp) (okD_noNul hp)]
theorem dirBytes_inj (L L' : List DE) (h : allOkD L) (h' : allOkD L') (hl : L.length = 4) (hl' : L'.length = 4) (e : dirBytes L = dirBytes L') : L = L' := by
  rw [← decD_dir L h hl, e, decD_dir L' h' hl']
theorem mapBytes_inj (L L' : List (Int × Int)) (h : allOkM L) (h' : allOkM L') (hl : L.length = 8) (hl' : L'.length = 8) (e : mapBytes L = mapBytes L') : L = L' := by
  rw [← decI_map L h hl, e, decI_map L' h' hl']
end Go.Proofs.YtggfdhjckohmjaaDoor
