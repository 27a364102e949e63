/- The heap's order: what the heap's functions make of a queue in order is one in order; what comes out is the eldest. -/
import Derived.Test.YtjldocpjoiibjaaC18
namespace Go.Proofs.Ytjldocpjoiibjaa
open Go.RowKit

def st (Q : List Bf) (i : Nat) : Int := (Q.getD i dflt).stamp
def HeapOn (Q : List Bf) (n : Nat) : Prop := ∀ i, 0 < i → i < n → st Q ((i - 1) / 2) ≤ st Q i
theorem st_of {Q : List Bf} {i : Nat} {b : Bf} (h : Q[i]? = some b) : st Q i = b.stamp := by unfold st; rw [getD_of h]
theorem st_swp {Q : List Bf} {i j : Nat} (hi : i < Q.length) (hj : j < Q.length) (k : Nat) : st (swp Q i j) k = if k = j then st Q i else if k = i then st Q j else st Q k := by
  have h := swp_at (List.getElem?_eq_getElem hi) (List.getElem?_eq_getElem hj) k
  unfold st
  simp only [List.getD_eq_getElem?_getD]
  rw [h]
  split
  · rw [List.getElem?_eq_getElem hi]
  · split
    · rw [List.getElem?_eq_getElem hj]
    · rfl
theorem less_iff {Q : List Bf} {i j : Nat} : lessQ Q i j = true ↔ st Q i < st Q j := by unfold lessQ st; exact decide_eq_true_iff
theorem st_congr {Q Q' : List Bf} (h : ∀ i, Q'.getD i dflt = Q.getD i dflt) (i : Nat) : st Q' i = st Q i := by unfold st; rw [h]

theorem up_heap : ∀ (f : Nat) (Q : List Bf) (j n : Nat), j ≤ f → j < n → n ≤ Q.length → (∀ i, 0 < i → i < n → i ≠ j → st Q ((i - 1) / 2) ≤ st Q i) →
    (∀ i, 0 < i → i < n → (i - 1) / 2 = j → 0 < j → st Q ((j - 1) / 2) ≤ st Q i) → HeapOn (upQ f Q j) n
  | 0, Q, j, n, hf, hj, hn, h1, h2 => fun i hi hin => h1 i hi hin (by omega)
  | f + 1, Q, j, n, hf, hj, hn, h1, h2 => by
    rw [upQ]
    split
    · rename_i h0
      exact fun i hi hin => h1 i hi hin (by omega)
    · rename_i h0
      split
      · rename_i hl
        rw [less_iff] at hl
        have lp : (j - 1) / 2 < Q.length := by omega
        have lj : j < Q.length := by omega
        refine up_heap f _ _ n (by omega) (by omega) (by rw [swp_length]; exact hn) (fun i hi hin hne => ?_) (fun i hi hin hpi hp0 => ?_)
        · rw [st_swp lp lj, st_swp lp lj]
          by_cases e1 : i = j
          · subst e1
            rw [if_neg (by omega), if_pos rfl, if_pos rfl]; omega
          · rw [if_neg e1, if_neg hne]
            by_cases e2 : (i - 1) / 2 = j
            · rw [if_pos e2]; exact h2 i hi hin e2 (by omega)
            · rw [if_neg e2]
              by_cases e3 : (i - 1) / 2 = (j - 1) / 2
              · rw [if_pos e3]
                have := h1 i hi hin e1
                rw [e3] at this; omega
              · rw [if_neg e3]; exact h1 i hi hin e1
        · have hpp := h1 ((j - 1) / 2) hp0 (by omega) (by omega)
          rw [st_swp lp lj, st_swp lp lj, if_neg (by omega), if_neg (by omega)]
          by_cases e1 : i = j
          · rw [if_pos e1]; exact hpp
          · rw [if_neg e1, if_neg (by omega)]
            have := h1 i hi hin e1
            rw [hpi] at this; omega
      · rename_i hl
        rw [less_iff] at hl
        intro i hi hin
        by_cases e : i = j
        · subst e; omega
        · exact h1 i hi hin e

theorem kid_le {Q : List Bf} {k n : Nat} (h : ¬ n ≤ 2 * k + 1) : kidQ Q k n < n ∧ (kidQ Q k n - 1) / 2 = k ∧ 0 < kidQ Q k n ∧ ∀ i, 0 < i → i < n → (i - 1) / 2 = k → st Q (kidQ Q k n) ≤ st Q i := by
  refine ⟨kidQ_lt h, ?_, ?_, fun i hi hin hp => ?_⟩
  · unfold kidQ; split <;> omega
  · unfold kidQ; split <;> omega
  · have hi2 : i = 2 * k + 1 ∨ i = 2 * k + 2 := by omega
    unfold kidQ
    split
    · rename_i hc
      rw [Bool.and_eq_true, decide_eq_true_eq, less_iff] at hc
      rcases hi2 with rfl | rfl
      · omega
      · exact Int.le_refl _
    · rename_i hc
      rw [Bool.and_eq_true, decide_eq_true_eq, less_iff] at hc
      rcases hi2 with rfl | rfl
      · exact Int.le_refl _
      · have : ¬ st Q (2 * k + 2) < st Q (2 * k + 1) := fun h => hc ⟨hin, h⟩
        omega
theorem down_heap : ∀ (f : Nat) (Q : List Bf) (k n : Nat), n ≤ f + k → n ≤ Q.length → (∀ i, 0 < i → i < n → (i - 1) / 2 ≠ k → st Q ((i - 1) / 2) ≤ st Q i) →
    (∀ i, 0 < i → i < n → (i - 1) / 2 = k → 0 < k → st Q ((k - 1) / 2) ≤ st Q i) → HeapOn (downQ f Q k n).1 n
  | 0, Q, k, n, hf, hn, h1, h2 => fun i hi hin => h1 i hi hin (by omega)
  | f + 1, Q, k, n, hf, hn, h1, h2 => by
    rw [downQ]
    split
    · rename_i h0
      exact fun i hi hin => h1 i hi hin (by omega)
    · rename_i h0
      obtain ⟨k1, k2, k3, k4⟩ := kid_le (Q := Q) h0
      generalize kidQ Q k n = c at k1 k2 k3 k4 ⊢
      split
      · rename_i hl
        rw [less_iff] at hl
        have lk : k < Q.length := by omega
        have lc : c < Q.length := by omega
        refine down_heap f _ _ n (by omega) (by rw [swp_length]; exact hn) (fun i hi hin hne => ?_) (fun i hi hin hpi hp0 => ?_)
        · rw [st_swp lk lc, st_swp lk lc, if_neg hne]
          by_cases e1 : i = c
          · subst e1
            rw [if_pos k2, if_pos rfl]; omega
          · rw [if_neg e1]
            by_cases e2 : (i - 1) / 2 = k
            · rw [if_pos e2, if_neg (by omega)]; exact k4 i hi hin e2
            · rw [if_neg e2]
              by_cases e3 : i = k
              · subst e3
                rw [if_pos rfl]; exact h2 c k3 k1 k2 hi
              · rw [if_neg e3]; exact h1 i hi hin e2
        · rw [st_swp lk lc, st_swp lk lc, k2, if_neg (by omega), if_pos rfl, if_neg (by omega), if_neg (by omega)]
          have := h1 i hi hin (by omega)
          rw [hpi] at this; exact this
      · rename_i hl
        rw [less_iff] at hl
        intro i hi hin
        show st Q ((i - 1) / 2) ≤ st Q i
        by_cases e : (i - 1) / 2 = k
        · have := k4 i hi hin e
          rw [e]; omega
        · exact h1 i hi hin e
/-- What down does not reach. -/
theorem down_beyond : ∀ (f : Nat) (Q : List Bf) (k n m : Nat), n ≤ Q.length → n ≤ m → k < n ∨ n ≤ 2 * k + 1 → (downQ f Q k n).1.getD m dflt = Q.getD m dflt
  | 0, Q, k, n, m, _, _, _ => rfl
  | f + 1, Q, k, n, m, hn, hm, hk => by
    rw [downQ]
    split
    · rfl
    · rename_i h0
      obtain ⟨k1, k2, k3, k4⟩ := kid_le (Q := Q) h0
      generalize kidQ Q k n = c at k1 k2 k3 k4 ⊢
      split
      · rw [down_beyond f _ c n m (by rw [swp_length]; exact hn) hm (.inl k1)]
        have h := swp_at (List.getElem?_eq_getElem (show k < Q.length by omega)) (List.getElem?_eq_getElem (show c < Q.length by omega)) m
        rw [List.getD_eq_getElem?_getD, h, if_neg (by omega), if_neg (by omega), ← List.getD_eq_getElem?_getD]
      · rfl
theorem heap_root {Q : List Bf} {n : Nat} (h : HeapOn Q n) : ∀ (i : Nat), i < n → st Q 0 ≤ st Q i := by
  intro i
  induction i using Nat.strongRecOn with
  | ind i ih =>
    intro hin
    by_cases h0 : i = 0
    · subst h0; exact Int.le_refl _
    · exact Int.le_trans (ih ((i - 1) / 2) (by omega) (by omega)) (h i (by omega) hin)

theorem hpush_heap {Q : List Bf} (h : HeapOn Q Q.length) (b : Bf) : HeapOn (hpush Q b) (hpush Q b).length := by
  have hl : (hpush Q b).length = Q.length + 1 := by rw [(hpush_perm Q b).length_eq, List.length_append]; rfl
  rw [hl]
  unfold hpush
  have e : ∀ i, i < Q.length → st (Q ++ [b]) i = st Q i := fun i hi => by unfold st; rw [List.getD_eq_getElem?_getD, List.getElem?_append_left hi, ← List.getD_eq_getElem?_getD]
  refine up_heap _ _ _ _ (by omega) (by omega) (by simp) (fun i hi hin hne => ?_) (fun i hi hin hp h0 => ?_)
  · rw [e _ (by omega), e _ (by omega)]; exact h i hi (by omega)
  · omega
theorem foldl_heap : ∀ (K Q : List Bf), HeapOn Q Q.length → HeapOn (K.foldl hpush Q) (K.foldl hpush Q).length
  | [], _, h => h
  | b :: K, _, h => foldl_heap K _ (hpush_heap h b)
/-- The stamp at a place has grown to be none's less. -/
theorem fix_heap {Q Q' : List Bf} {i : Nat} (h : HeapOn Q Q.length) (hl : Q'.length = Q.length) (hi : i < Q.length) (he : ∀ k, k ≠ i → st Q' k = st Q k) (hge : ∀ k, k < Q.length → st Q k ≤ st Q' i) : HeapOn (fixQ Q' i) Q'.length := by
  have h1 : ∀ k, 0 < k → k < Q'.length → (k - 1) / 2 ≠ i → st Q' ((k - 1) / 2) ≤ st Q' k := fun k hk hkn hne => by
    rw [he _ hne]
    by_cases e : k = i
    · subst e; exact hge _ (by omega)
    · rw [he k e]; exact h k hk (by omega)
  have h2 : ∀ k, 0 < k → k < Q'.length → (k - 1) / 2 = i → 0 < i → st Q' ((i - 1) / 2) ≤ st Q' k := fun k hk hkn hp h0 => by
    rw [he _ (by omega), he k (by omega)]
    have a := h i h0 hi
    have b := h k hk (by omega)
    rw [hp] at b; omega
  have hd := down_heap Q'.length Q' i Q'.length (by omega) (Nat.le_refl _) h1 h2
  unfold fixQ
  split
  · exact hd
  · have hdl : (downQ Q'.length Q' i Q'.length).1.length = Q'.length := (downQ_perm _ _ _ _ (Nat.le_refl _)).length_eq
    refine up_heap _ _ _ _ (by omega) (by omega) (by rw [hdl]; omega) (fun k hk hkn _ => hd k hk hkn) (fun k hk hkn hp h0 => ?_)
    have a := hd i h0 (by omega)
    have b := hd k hk hkn
    rw [hp] at b; omega
theorem useQ_heap {Q : List Bf} {i : Nat} {b : Bf} (h : HeapOn Q Q.length) (hi : Q[i]? = some b) {s : Int} (hs : ∀ x ∈ Q, x.stamp ≤ s) : HeapOn (useQ Q i s) (useQ Q i s).length := by
  have hil : i < Q.length := (List.getElem?_eq_some_iff.1 hi).1
  rw [useQ_length hi]
  unfold useQ
  rw [getD_of hi]
  have hl : (Q.set i (b.setStamp s)).length = Q.length := List.length_set
  have hst : ∀ k, k < Q.length → st Q k ≤ s := fun k hk => by
    rw [st_of (List.getElem?_eq_getElem hk)]; exact hs _ (List.getElem_mem hk)
  have := fix_heap (Q' := Q.set i (b.setStamp s)) h hl hil (fun k hk => by unfold st; rw [List.getD_eq_getElem?_getD, List.getElem?_set, if_neg (by omega), ← List.getD_eq_getElem?_getD])
    (fun k hk => by rw [st_of (set_at hi)]; exact hst k hk)
  rw [hl] at this
  exact this
/-- Nothing but stamps counts. -/
theorem set_heap {Q : List Bf} {i : Nat} {b b' : Bf} (h : HeapOn Q Q.length) (hi : Q[i]? = some b) (hs : b'.stamp = b.stamp) : HeapOn (Q.set i b') (Q.set i b').length := by
  have e : ∀ k, st (Q.set i b') k = st Q k := fun k => by
    by_cases hk : k = i
    · subst hk; rw [st_of (set_at hi), st_of hi, hs]
    · unfold st; rw [List.getD_eq_getElem?_getD, List.getElem?_set, if_neg (by omega), ← List.getD_eq_getElem?_getD]
  rw [List.length_set]
  intro k hk hkn
  rw [e, e]; exact h k hk hkn

theorem pop_parts {Q : List Bf} (h0 : 0 < Q.length) (h : HeapOn Q Q.length) : popX Q = Q.getD 0 dflt ∧ HeapOn (popR Q) (popR Q).length := by
  have l0 : (swp Q 0 (Q.length - 1)).length = Q.length := swp_length _ _ _
  have hx : popX Q = Q.getD 0 dflt := by
    unfold popX popQ
    rw [down_beyond _ _ _ _ _ (by omega) (Nat.le_refl _) (by omega)]
    have := swp_at (List.getElem?_eq_getElem h0) (List.getElem?_eq_getElem (show Q.length - 1 < Q.length by omega)) (Q.length - 1)
    rw [List.getD_eq_getElem?_getD, this, if_pos rfl, List.getD_eq_getElem?_getD, List.getElem?_eq_getElem h0]
  refine ⟨hx, ?_⟩
  have hd : HeapOn (popQ Q) (Q.length - 1) := by
    unfold popQ
    refine down_heap _ _ _ _ (by omega) (by omega) (fun i hi hin hne => ?_) (fun i hi hin hp h0 => by omega)
    rw [st_swp h0 (by omega), st_swp h0 (by omega), if_neg (by omega), if_neg (by omega), if_neg (by omega), if_neg (by omega)]
    exact h i hi (by omega)
  have hl : (popR Q).length = Q.length - 1 := by
    have := (popQ_perm h0).length_eq
    rw [List.length_append] at this
    simp at this; omega
  rw [hl]
  have e : ∀ i, i < Q.length - 1 → st (popR Q) i = st (popQ Q) i := fun i hi => by
    unfold popR st
    rw [List.getD_eq_getElem?_getD, List.getElem?_take, if_pos hi, ← List.getD_eq_getElem?_getD]
  intro i hi hin
  rw [e _ (by omega), e i hin]
  exact hd i hi hin
theorem pop_least {Q : List Bf} (h0 : 0 < Q.length) (h : HeapOn Q Q.length) : ∀ x ∈ Q, (popX Q).stamp ≤ x.stamp := fun x hx => by
  obtain ⟨i, hi⟩ := List.mem_iff_getElem?.1 hx
  have := heap_root h i (List.getElem?_eq_some_iff.1 hi).1
  rw [st_of hi] at this
  rw [(pop_parts h0 h).1]
  exact this
end Go.Proofs.Ytjldocpjoiibjaa
