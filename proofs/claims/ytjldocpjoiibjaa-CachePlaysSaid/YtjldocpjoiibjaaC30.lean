/- What container/heap.Remove makes of a queue: the buffer at a place is taken out; the order stays. -/
import Derived.Test.YtjldocpjoiibjaaC22
namespace Go.Proofs.Ytjldocpjoiibjaa
open Go.RowKit

def remQ (Q : List Bf) (i : Nat) : List Bf :=
  if i = Q.length - 1 then Q else
    if i < (downQ (Q.length - 1) (swp Q i (Q.length - 1)) i (Q.length - 1)).2 then (downQ (Q.length - 1) (swp Q i (Q.length - 1)) i (Q.length - 1)).1
    else upQ Q.length (downQ (Q.length - 1) (swp Q i (Q.length - 1)) i (Q.length - 1)).1 i
def remR (Q : List Bf) (i : Nat) : List Bf := (remQ Q i).take (Q.length - 1)
theorem up_beyond : ∀ (f : Nat) (Q : List Bf) (j m : Nat), j < Q.length → j < m → (upQ f Q j).getD m dflt = Q.getD m dflt
  | 0, _, _, _, _, _ => rfl
  | f + 1, Q, j, m, hj, hm => by
    rw [upQ]
    split
    · rfl
    · split
      · rw [up_beyond f _ _ m (by rw [swp_length]; omega) (by omega)]
        have h := swp_at (List.getElem?_eq_getElem (show (j - 1) / 2 < Q.length by omega)) (List.getElem?_eq_getElem hj) m
        rw [List.getD_eq_getElem?_getD, h, if_neg (by omega), if_neg (by omega), ← List.getD_eq_getElem?_getD]
      · rfl
theorem rem_perm {Q : List Bf} {i : Nat} (hi : i < Q.length) : (remQ Q i).Perm Q := by
  have h1 := swp_perm (Q := Q) (i := i) (j := Q.length - 1) hi (by omega)
  have h2 := (downQ_perm (Q.length - 1) (swp Q i (Q.length - 1)) i (Q.length - 1) (by rw [swp_length]; omega)).trans h1
  unfold remQ
  split
  · exact .refl _
  · split
    · exact h2
    · exact (upQ_perm _ _ _ (by rw [h2.length_eq]; exact hi)).trans h2
theorem rem_last {Q : List Bf} {i : Nat} (hi : i < Q.length) : (remQ Q i).getD (Q.length - 1) dflt = Q.getD i dflt := by
  have h1 := swp_perm (Q := Q) (i := i) (j := Q.length - 1) hi (by omega)
  have h2 := (downQ_perm (Q.length - 1) (swp Q i (Q.length - 1)) i (Q.length - 1) (by rw [swp_length]; omega)).trans h1
  have h4 : (swp Q i (Q.length - 1)).getD (Q.length - 1) dflt = Q.getD i dflt := by
    have := swp_at (List.getElem?_eq_getElem hi) (List.getElem?_eq_getElem (show Q.length - 1 < Q.length by omega)) (Q.length - 1)
    rw [List.getD_eq_getElem?_getD, this, if_pos rfl, List.getD_eq_getElem?_getD, List.getElem?_eq_getElem hi]
  unfold remQ
  split
  · rename_i h; rw [← h]
  · rename_i h
    have h3 := down_beyond (Q.length - 1) (swp Q i (Q.length - 1)) i (Q.length - 1) (Q.length - 1) (by rw [swp_length]; omega) (Nat.le_refl _) (by omega)
    split
    · rw [h3, h4]
    · rw [up_beyond _ _ _ _ (by rw [h2.length_eq]; exact hi) (by omega), h3, h4]
theorem rem_split {Q : List Bf} {i : Nat} {b : Bf} (hi : Q[i]? = some b) : remQ Q i = remR Q i ++ [b] ∧ (remR Q i).length = Q.length - 1 := by
  have hil := (List.getElem?_eq_some_iff.1 hi).1
  have hl := (rem_perm hil).length_eq
  have h1 := rem_last hil
  rw [getD_of hi] at h1
  have h2 : (remQ Q i)[Q.length - 1]? = some b := by
    rw [List.getD_eq_getElem?_getD, List.getElem?_eq_getElem (by omega)] at h1
    rw [List.getElem?_eq_getElem (by omega)]
    exact congrArg some h1
  have h3 := List.take_add_one (l := remQ Q i) (i := Q.length - 1)
  rw [h2, show Q.length - 1 + 1 = (remQ Q i).length by omega, List.take_length] at h3
  refine ⟨h3, ?_⟩
  unfold remR
  rw [List.length_take]; omega
theorem down_still {Q : List Bf} {k n : Nat} (f : Nat) (h : ∀ i, 0 < i → i < n → (i - 1) / 2 = k → st Q k ≤ st Q i) : downQ f Q k n = (Q, k) := by
  cases f with
  | zero => rfl
  | succ f =>
    rw [downQ]
    split
    · rfl
    · rename_i h0
      obtain ⟨k1, k2, k3, k4⟩ := kid_le (Q := Q) h0
      have := h _ k3 k1 k2
      rw [if_neg (fun hl => by rw [less_iff] at hl; omega)]
theorem rem_heap {Q : List Bf} {i : Nat} (h : HeapOn Q Q.length) (hi : i < Q.length) : HeapOn (remR Q i) (remR Q i).length := by
  have hl : (remR Q i).length = Q.length - 1 := (rem_split (List.getElem?_eq_getElem hi)).2
  rw [hl]
  suffices hq : HeapOn (remQ Q i) (Q.length - 1) by
    have e : ∀ k, k < Q.length - 1 → st (remR Q i) k = st (remQ Q i) k := fun k hk => by
      unfold remR st
      rw [List.getD_eq_getElem?_getD, List.getElem?_take, if_pos hk, ← List.getD_eq_getElem?_getD]
    intro k hk hkn
    rw [e _ (by omega), e k hkn]
    exact hq k hk hkn
  unfold remQ
  split
  · exact fun k hk hkn => h k hk (by omega)
  · rename_i hne
    have hs : ∀ k, k < Q.length - 1 → st (swp Q i (Q.length - 1)) k = if k = i then st Q (Q.length - 1) else st Q k := fun k hk => by
      rw [st_swp hi (by omega), if_neg (by omega)]
    have hsl : (swp Q i (Q.length - 1)).length = Q.length := swp_length _ _ _
    generalize swp Q i (Q.length - 1) = S at hs hsl ⊢
    have hkid : ∀ k, 0 < k → k < Q.length - 1 → (k - 1) / 2 = i → 0 < i → st S ((i - 1) / 2) ≤ st S k := fun k hk hkn hp h0 => by
      rw [hs _ (by omega), hs k hkn, if_neg (by omega), if_neg (by omega)]
      have a := h i h0 hi
      have b := h k hk (by omega)
      rw [hp] at b; omega
    have hoth : ∀ k, 0 < k → k < Q.length - 1 → k ≠ i → (k - 1) / 2 ≠ i → st S ((k - 1) / 2) ≤ st S k := fun k hk hkn h1 h2 => by
      rw [hs _ (by omega), hs k hkn, if_neg h2, if_neg h1]
      exact h k hk (by omega)
    by_cases hup : 0 < i ∧ st S i < st S ((i - 1) / 2)
    · rw [down_still (Q.length - 1) (fun k hk hkn hp => by have := hkid k hk hkn hp hup.1; omega), if_neg (by simp)]
      show HeapOn (upQ Q.length S i) (Q.length - 1)
      refine up_heap _ _ _ _ (by omega) (by omega) (by omega) (fun k hk hkn hki => ?_) (fun k hk hkn hp h0 => hkid k hk hkn hp h0)
      by_cases hp : (k - 1) / 2 = i
      · have := hkid k hk hkn hp hup.1
        rw [hp]; omega
      · exact hoth k hk hkn hki hp
    · have hd := down_heap (Q.length - 1) S i (Q.length - 1) (by omega) (by omega) (fun k hk hkn hp => by
        by_cases e : k = i
        · subst e
          have : ¬ st S k < st S ((k - 1) / 2) := fun hlt => hup ⟨hk, hlt⟩
          omega
        · exact hoth k hk hkn e hp) hkid
      have hdl : (downQ (Q.length - 1) S i (Q.length - 1)).1.length = Q.length := by rw [(downQ_perm _ _ _ _ (by omega)).length_eq, hsl]
      split
      · exact hd
      · refine up_heap _ _ _ _ (by omega) (by omega) (by omega) (fun k hk hkn _ => hd k hk hkn) (fun k hk hkn hp h0 => ?_)
        have a := hd i h0 (by omega)
        have b := hd k hk hkn
        rw [hp] at b; omega
theorem Lru.drop {Q A B : List Bf} {s : Int} {i : Nat} {b : Bf} (h : Lru Q s (A ++ b :: B)) (hi : Q[i]? = some b) : Lru (remR Q i) s (A ++ B) := by
  have hil := (List.getElem?_eq_some_iff.1 hi).1
  have hsub : (A ++ B).Sublist (A ++ b :: B) := List.Sublist.append (List.Sublist.refl _) (List.sublist_cons_self _ _)
  refine ⟨?_, h.sorted.sublist hsub, rem_heap h.heap hil, fun x hx => h.bound x (hsub.subset hx)⟩
  have hp := rem_perm hil
  rw [(rem_split hi).1] at hp
  exact (List.perm_append_comm.trans (hp.trans (h.perm.trans (mid_perm A B b)))).cons_inv
end Go.Proofs.Ytjldocpjoiibjaa
