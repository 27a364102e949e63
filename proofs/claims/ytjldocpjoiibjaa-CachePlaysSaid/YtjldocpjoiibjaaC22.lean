/- The cache by last use: the queue as the list of its buffers, the eldest use first. -/
import Derived.Test.YtjldocpjoiibjaaC21
namespace Go.Proofs.Ytjldocpjoiibjaa
open Go.RowKit

/-- L: the buffers of the queue, the eldest use first; s: the last stamp. -/
structure Lru (Q : List Bf) (s : Int) (L : List Bf) : Prop where
  perm : Q.Perm L
  sorted : L.Pairwise fun a b => a.stamp < b.stamp
  heap : HeapOn Q Q.length
  bound : ∀ b ∈ L, b.stamp ≤ s
theorem Lru.nil : Lru [] 0 [] := ⟨.refl _, .nil, fun _ _ h => by simp at h, fun _ h => by cases h⟩
theorem Lru.qbound {Q L : List Bf} {s : Int} (h : Lru Q s L) : ∀ b ∈ Q, b.stamp ≤ s := fun b hb => h.bound b (h.perm.mem_iff.1 hb)
theorem Lru.at {Q L : List Bf} {s : Int} (h : Lru Q s L) {b : Bf} (hb : b ∈ L) : ∃ (i : Nat), Q[i]? = some b := List.mem_iff_getElem?.1 (h.perm.mem_iff.2 hb)
theorem mid_perm (A B : List Bf) (b : Bf) : (A ++ b :: B).Perm (b :: (A ++ B)) := List.perm_middle
theorem Lru.set {Q A B : List Bf} {s : Int} {i : Nat} {b b' : Bf} (h : Lru Q s (A ++ b :: B)) (hi : Q[i]? = some b) (hs : b'.stamp = b.stamp) : Lru (Q.set i b') s (A ++ b' :: B) := by
  refine ⟨(set_perm (h.perm.trans (mid_perm A B b)) hi).trans (mid_perm A B b').symm, ?_, set_heap h.heap hi hs, fun x hx => ?_⟩
  · have := h.sorted
    rw [List.pairwise_append, List.pairwise_cons] at this ⊢
    refine ⟨this.1, ⟨fun x hx => by rw [hs]; exact this.2.1.1 x hx, this.2.1.2⟩, fun x hx y hy => ?_⟩
    rcases List.mem_cons.1 hy with rfl | hy
    · rw [hs]; exact this.2.2 x hx b List.mem_cons_self
    · exact this.2.2 x hx y (List.mem_cons_of_mem _ hy)
  · rcases List.mem_append.1 hx with hx | hx
    · exact h.bound x (List.mem_append_left _ hx)
    · rcases List.mem_cons.1 hx with rfl | hx
      · rw [hs]; exact h.bound b (by simp)
      · exact h.bound x (List.mem_append_right _ (List.mem_cons_of_mem _ hx))
theorem sorted_snoc {L : List Bf} {s : Int} {x : Bf} (h : L.Pairwise fun a b => a.stamp < b.stamp) (hb : ∀ b ∈ L, b.stamp ≤ s) (hx : x.stamp = s + 1) : (L ++ [x]).Pairwise fun a b => a.stamp < b.stamp := by
  rw [List.pairwise_append]
  refine ⟨h, by simp, fun a ha b hb' => ?_⟩
  rw [List.mem_singleton] at hb'
  subst hb'
  have := hb a ha
  omega
theorem bound_snoc {L : List Bf} {s : Int} {x : Bf} (hb : ∀ b ∈ L, b.stamp ≤ s) (hx : x.stamp = s + 1) : ∀ b ∈ L ++ [x], b.stamp ≤ s + 1 := fun b hm => by
  rcases List.mem_append.1 hm with hm | hm
  · have := hb b hm; omega
  · rw [List.mem_singleton] at hm; subst hm; omega
theorem Lru.use {Q A B : List Bf} {s : Int} {i : Nat} {b : Bf} (h : Lru Q s (A ++ b :: B)) (hi : Q[i]? = some b) : Lru (useQ Q i (s + 1)) (s + 1) (A ++ B ++ [b.setStamp (s + 1)]) := by
  have hsub : (A ++ B).Sublist (A ++ b :: B) := List.Sublist.append (List.Sublist.refl _) (List.sublist_cons_self _ _)
  have hb : ∀ x ∈ A ++ B, x.stamp ≤ s := fun x hx => h.bound x (hsub.subset hx)
  refine ⟨?_, sorted_snoc (h.sorted.sublist hsub) hb rfl, useQ_heap h.heap hi (fun x hx => by have := h.qbound x hx; omega), bound_snoc hb rfl⟩
  refine (useQ_perm hi (s + 1)).trans ((set_perm (h.perm.trans (mid_perm A B b)) hi).trans ?_)
  exact List.perm_append_comm (l₁ := [b.setStamp (s + 1)])
theorem Lru.push {Q L : List Bf} {s : Int} {nb n : Nat} {k : Int × Int} {l : List Value} {d : Bool} (h : Lru Q s L) (h0 : 0 ≤ s) (hn : (hpush Q (newB nb k))[n]? = some (newB nb k)) :
    Lru (useQ ((hpush Q (newB nb k)).set n ((newB nb k).put l d)) n (s + 1)) (s + 1) (L ++ [((newB nb k).put l d).setStamp (s + 1)]) := by
  refine ⟨(full_put hn (s + 1)).trans ((h.perm.cons _).trans (List.perm_append_comm (l₁ := [((newB nb k).put l d).setStamp (s + 1)]))), sorted_snoc h.sorted h.bound rfl, ?_, bound_snoc h.bound rfl⟩
  refine useQ_heap (set_heap (b' := (newB nb k).put l d) (hpush_heap h.heap _) hn rfl) (set_at hn) fun x hx => ?_
  rcases List.mem_cons.1 ((set_push hn).mem_iff.1 hx) with rfl | hx
  · show (0 : Int) ≤ _; omega
  · have := h.qbound x hx; omega

theorem evQ_heap : ∀ (f : Nat) (Q K : List Bf), HeapOn Q Q.length → HeapOn (evQ f Q K).2.1 (evQ f Q K).2.1.length
  | 0, Q, K, h => h
  | f + 1, Q, K, h => by
    rw [evQ]
    split
    · exact h
    · rename_i h0
      have hp := (pop_parts (by omega) h).2
      split
      · exact evQ_heap f _ _ hp
      · exact hp
theorem evF_heap {Q : List Bf} (h : HeapOn Q Q.length) : HeapOn (evF Q) (evF Q).length := foldl_heap _ _ (evQ_heap _ _ _ h)
theorem Lru.pop {Q L : List Bf} {s : Int} {x : Bf} (h : Lru Q s (x :: L)) : popX Q = x ∧ Lru (popR Q) s L := by
  have h0 : 0 < Q.length := by rw [h.perm.length_eq]; simp
  have hx : popX Q = x := by
    have h1 := pop_least h0 h.heap x (h.perm.mem_iff.2 List.mem_cons_self)
    rcases List.mem_cons.1 (h.perm.mem_iff.1 (popX_mem h0)) with he | he
    · exact he
    · have := (List.pairwise_cons.1 h.sorted).1 _ he
      omega
  refine ⟨hx, ?_, (List.pairwise_cons.1 h.sorted).2, (pop_parts h0 h.heap).2, fun b hb => h.bound b (List.mem_cons_of_mem _ hb)⟩
  have hp := popQ_perm h0
  rw [hx] at hp
  exact (List.perm_append_comm.trans (hp.trans h.perm)).cons_inv
theorem evQ_lru : ∀ (f : Nat) (Q K A B : List Bf) (s : Int) (b : Bf), Lru Q s (A ++ b :: B) → A.length < f → (∀ x ∈ A, stuckB x = true) → stuckB b = false → (evQ f Q K).1 = some b
  | 0, Q, K, A, B, s, b, _, hf, _, _ => by omega
  | f + 1, Q, K, A, B, s, b, h, hf, hA, hb => by
    have h0 : ¬ Q.length = 0 := by rw [h.perm.length_eq]; simp
    rw [evQ, if_neg h0]
    cases A with
    | nil =>
      obtain ⟨hx, _⟩ := h.pop
      unfold stuckB at hb
      rw [hx, hb, if_neg (by simp)]
    | cons a A =>
      obtain ⟨hx, hr⟩ := h.pop
      have ha := hA a List.mem_cons_self
      unfold stuckB at ha
      rw [hx, ha, if_pos rfl]
      exact evQ_lru f _ _ A B s b hr (by simpa using hf) (fun x hx => hA x (List.mem_cons_of_mem _ hx)) hb
/-- The eldest that may go goes. -/
theorem Lru.evict {Q A B : List Bf} {s : Int} {b : Bf} (h : Lru Q s (A ++ b :: B)) (hA : ∀ x ∈ A, stuckB x = true) (hb : stuckB b = false) : evX Q = some b ∧ Lru (evF Q) s (A ++ B) := by
  have he : evX Q = some b := evQ_lru _ _ _ A B s b h (by rw [h.perm.length_eq]; simp) hA hb
  have hsub : (A ++ B).Sublist (A ++ b :: B) := List.Sublist.append (List.Sublist.refl _) (List.sublist_cons_self _ _)
  refine ⟨he, ?_, h.sorted.sublist hsub, evF_heap h.heap, fun x hx => h.bound x (hsub.subset hx)⟩
  have := evF_perm Q
  rw [he] at this
  exact (this.trans (h.perm.trans (mid_perm A B b))).cons_inv
theorem Lru.stuck {Q L : List Bf} {s : Int} (h : Lru Q s L) (hL : ∀ x ∈ L, stuckB x = true) : evX Q = none ∧ Lru (evF Q) s L := by
  have he : evX Q = none := evX_stuck fun b hb => hL b (h.perm.mem_iff.1 hb)
  exact ⟨he, (evF_none he).trans h.perm, h.sorted, evF_heap h.heap, h.bound⟩
/-- Two lists of the same, both in order: they are one. -/
theorem sorted_unique : ∀ (L M : List Bf), L.Perm M → L.Pairwise (fun a b => a.stamp < b.stamp) → M.Pairwise (fun a b => a.stamp ≤ b.stamp) → L = M
  | [], M, hp, _, _ => (List.nil_perm.1 hp).symm
  | a :: L, [], hp, _, _ => (List.nil_perm.1 hp.symm)
  | a :: L, m :: M, hp, hl, hm => by
    have h1 := List.pairwise_cons.1 hl
    have h2 := List.pairwise_cons.1 hm
    have he : a = m := by
      rcases List.mem_cons.1 (hp.mem_iff.2 (List.mem_cons_self (a := m))) with e | e
      · exact e.symm
      · have h3 := h1.1 m e
        rcases List.mem_cons.1 (hp.mem_iff.1 (List.mem_cons_self (a := a))) with e' | e'
        · exact e'
        · have h4 := h2.1 a e'
          omega
    subst he
    rw [sorted_unique L M hp.cons_inv h1.2 h2.2]
end Go.Proofs.Ytjldocpjoiibjaa
