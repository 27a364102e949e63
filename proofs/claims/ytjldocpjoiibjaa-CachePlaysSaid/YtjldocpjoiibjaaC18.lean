/- Plain laws: what is let go where none may go, and where just one may. -/
import Derived.Test.YtjldocpjoiibjaaC17
namespace Go.Proofs.Ytjldocpjoiibjaa
open Go.RowKit

def stuckB (b : Bf) : Bool := b.dirty || decide (0 < b.pins)
theorem popX_mem {Q : List Bf} (h : 0 < Q.length) : popX Q ∈ Q := (popQ_perm h).mem_iff.1 (by simp)
theorem popR_mem {Q : List Bf} (h : 0 < Q.length) {b : Bf} (hb : b ∈ popR Q) : b ∈ Q := (popQ_perm h).mem_iff.1 (List.mem_append_left _ hb)
theorem evQ_stuck : ∀ (f : Nat) (Q K : List Bf), (∀ b ∈ Q, stuckB b = true) → (evQ f Q K).1 = none
  | 0, Q, K, _ => rfl
  | f + 1, Q, K, h => by
    rw [evQ]
    split
    · rfl
    · rename_i h0
      have h1 := h _ (popX_mem (Q := Q) (by omega))
      unfold stuckB at h1
      rw [h1, if_pos rfl]
      exact evQ_stuck f _ _ fun b hb => h b (popR_mem (by omega) hb)
theorem evX_stuck {Q : List Bf} (h : ∀ b ∈ Q, stuckB b = true) : evX Q = none := evQ_stuck _ _ _ h
theorem evQ_one : ∀ (f : Nat) (Q K : List Bf) (b0 : Bf), Q.length ≤ f → b0 ∈ Q → stuckB b0 = false → (∀ b ∈ Q, b = b0 ∨ stuckB b = true) → (evQ f Q K).1 = some b0
  | 0, Q, K, b0, hl, hb, _, _ => by
    have : Q = [] := List.eq_nil_of_length_eq_zero (by omega)
    subst this; cases hb
  | f + 1, Q, K, b0, hl, hb, hs, h => by
    have h0 : 0 < Q.length := List.length_pos_of_mem hb
    have hp := popQ_perm h0
    rw [evQ, if_neg (by omega)]
    rcases h _ (popX_mem h0) with he | he
    · rw [he]
      unfold stuckB at hs
      rw [hs, if_neg (by simp)]
    · have he2 := he
      unfold stuckB at he2
      rw [he2, if_pos rfl]
      have hlen := hp.length_eq
      rw [List.length_append, List.length_singleton] at hlen
      refine evQ_one f _ _ b0 (by omega) ?_ hs fun b hb => h b (popR_mem h0 hb)
      have hm := hp.mem_iff.2 hb
      rcases List.mem_append.1 hm with hm | hm
      · exact hm
      · rw [List.mem_singleton] at hm
        rw [← hm, hs] at he; cases he
theorem evX_one {Q : List Bf} {b0 : Bf} (hb : b0 ∈ Q) (hs : stuckB b0 = false) (h : ∀ b ∈ Q, b = b0 ∨ stuckB b = true) : evX Q = some b0 := evQ_one _ _ _ _ (Nat.le_refl _) hb hs h

theorem useQ_length {Q : List Bf} {i : Nat} {b : Bf} (hi : Q[i]? = some b) (s : Int) : (useQ Q i s).length = Q.length := by rw [(useQ_perm hi s).length_eq, List.length_set]
theorem useQ_keys {Q : List Bf} {i : Nat} {b : Bf} (hi : Q[i]? = some b) (s : Int) : ((useQ Q i s).map Bf.key).Perm (Q.map Bf.key) := by
  have h := (useQ_perm hi s).map Bf.key
  rw [map_set_same Bf.key Q i b (b.setStamp s) hi rfl] at h
  exact h
/-- What holds of a buffer whatever its stamp holds behind a use. -/
theorem useQ_all {Q : List Bf} {i : Nat} {b : Bf} (hi : Q[i]? = some b) (s : Int) {p : Bf → Prop} (hp : ∀ x s, p x → p (x.setStamp s)) (h : ∀ x ∈ Q, p x) : ∀ x ∈ useQ Q i s, p x := fun x hx => by
  rcases List.mem_or_eq_of_mem_set ((useQ_perm hi s).mem_iff.1 hx) with hx | rfl
  · exact h x hx
  · exact hp _ _ (h b (List.mem_of_getElem? hi))
theorem set_keys {Q : List Bf} {i : Nat} {b b' : Bf} (hi : Q[i]? = some b) (hk : b'.key = b.key) : (Q.set i b').map Bf.key = Q.map Bf.key := map_set_same Bf.key Q i b b' hi hk
theorem set_at {Q : List Bf} {i : Nat} {b b' : Bf} (hi : Q[i]? = some b) : (Q.set i b')[i]? = some b' := by rw [List.getElem?_set, if_pos rfl, if_pos (List.getElem?_eq_some_iff.1 hi).1]
theorem mem_key {Q : List Bf} {k : Int × Int} (h : k ∈ Q.map Bf.key) : ∃ (i : Nat) (b : Bf), Q[i]? = some b ∧ b.key = k := by
  obtain ⟨b, hb, he⟩ := List.mem_map.1 h
  obtain ⟨i, hi⟩ := List.mem_iff_getElem?.1 hb
  exact ⟨i, b, hi, he⟩
theorem CAt.keysNodup {w : World} {cb : Nat} {room stamp : Int} {Q : List Bf} {F : Nat → Prop} (h : CAt w cb room stamp Q F) : (Q.map Bf.key).Nodup := by
  obtain ⟨mb, v, E, h⟩ := h
  exact h.keys
theorem CAt.bufok {w : World} {cb : Nat} {room stamp : Int} {Q : List Bf} {F : Nat → Prop} (h : CAt w cb room stamp Q F) {b : Bf} (hb : b ∈ Q) : b.ok := by
  obtain ⟨mb, v, E, h⟩ := h
  obtain ⟨i, hi⟩ := List.mem_iff_getElem?.1 hb
  exact (h.hq.buf i b hi).1

/-- The state of CacheFull's loop: i buffers, none of which may go. -/
structure FullSt (Q : List Bf) (i : Nat) (pin : Bool) : Prop where
  len : Q.length = i
  keys : (Q.map Bf.key).Perm ((List.range i).map fun (j : Nat) => ((0 : Int), (j : Int)))
  all : ∀ b ∈ Q, b.dirty = !pin ∧ b.pins = if pin then 1 else 0
theorem FullSt.stuck {Q : List Bf} {i : Nat} {pin : Bool} (h : FullSt Q i pin) : ∀ b ∈ Q, stuckB b = true := fun b hb => by
  obtain ⟨h1, h2⟩ := h.all b hb
  unfold stuckB
  rw [h1, h2]; cases pin <;> rfl
theorem FullSt.fresh {Q : List Bf} {i : Nat} {pin : Bool} (h : FullSt Q i pin) {z : Int} (hz : (i : Int) ≤ z) : ((0 : Int), z) ∉ Q.map Bf.key := fun hx => by
  have := h.keys.mem_iff.1 hx
  obtain ⟨j, hj, he⟩ := List.mem_map.1 this
  rw [List.mem_range] at hj
  have : (j : Int) = z := (Prod.mk.inj he).2
  omega
theorem FullSt.has {Q : List Bf} {i : Nat} {pin : Bool} (h : FullSt Q i pin) {j : Nat} (hj : j < i) : ∃ (n : Nat) (b : Bf), Q[n]? = some b ∧ b.key = (0, (j : Int)) :=
  mem_key (h.keys.mem_iff.2 (List.mem_map.2 ⟨j, List.mem_range.2 hj, rfl⟩))
theorem set_perm {Q Q' : List Bf} {x b' : Bf} {n : Nat} (hp : Q'.Perm (x :: Q)) (hn : Q'[n]? = some x) : (Q'.set n b').Perm (b' :: Q) := by
  have h2 : (Q'.eraseIdx n).Perm Q := ((erase_perm _ _ _ hn).trans hp).cons_inv
  have h3 := erase_perm _ _ _ (set_at (b' := b') hn)
  rw [List.eraseIdx_set_eq] at h3
  exact h3.symm.trans (h2.cons _)
theorem set_push {Q : List Bf} {x b' : Bf} {n : Nat} (hn : (hpush Q x)[n]? = some x) : ((hpush Q x).set n b').Perm (b' :: Q) :=
  set_perm ((hpush_perm Q x).trans List.perm_append_comm) hn
theorem perm_at {Q Q' : List Bf} {x : Bf} (hp : Q'.Perm (x :: Q)) : ∃ (n : Nat), Q'[n]? = some x := List.mem_iff_getElem?.1 (hp.mem_iff.2 (List.mem_cons_self))
/-- One more. -/
theorem full_put {Q : List Bf} {k : Int × Int} {nb n : Nat} {d : Bool} {l : List Value} (hn : (hpush Q (newB nb k))[n]? = some (newB nb k)) (s : Int) :
    (useQ ((hpush Q (newB nb k)).set n ((newB nb k).put l d)) n s).Perm (((newB nb k).put l d).setStamp s :: Q) := by
  have ha := set_at (b' := (newB nb k).put l d) hn
  refine (useQ_perm ha s).trans ?_
  rw [List.set_set]
  exact set_push hn
theorem FullSt.cons {Q Q' : List Bf} {i : Nat} {pin : Bool} {x : Bf} (h : FullSt Q i pin) (hp : Q'.Perm (x :: Q)) (hk : x.key = (0, (i : Int))) (hx : x.dirty = !pin ∧ x.pins = if pin then 1 else 0) : FullSt Q' (i + 1) pin := by
  refine ⟨?_, ?_, fun b hb => ?_⟩
  · rw [hp.length_eq, List.length_cons, h.len]
  · refine (hp.map Bf.key).trans ?_
    rw [List.map_cons, List.range_succ, List.map_append, hk]
    exact (h.keys.cons _).trans (List.perm_append_comm (l₁ := [((0 : Int), (i : Int))]))
  · rcases List.mem_cons.1 (hp.mem_iff.1 hb) with rfl | hb
    · exact hx
    · exact h.all b hb
theorem FullSt.perm {Q Q' : List Bf} {i : Nat} {pin : Bool} (h : FullSt Q i pin) (hp : Q'.Perm Q) : FullSt Q' i pin :=
  ⟨hp.length_eq.trans h.len, (hp.map Bf.key).trans h.keys, fun b hb => h.all b (hp.mem_iff.1 hb)⟩
theorem evF_none {Q : List Bf} (h : evX Q = none) : (evF Q).Perm Q := by
  have := evF_perm Q
  rwa [h] at this
theorem FullSt.full {Q : List Bf} {i : Nat} {pin : Bool} (h : FullSt Q i pin) : FullSt (evF Q) i pin := h.perm (evF_none (evX_stuck h.stuck))
theorem FullSt.put {Q : List Bf} {i n : Nat} {pin : Bool} {b : Bf} (h : FullSt Q i pin) (hn : Q[n]? = some b) (l : List Value) (s : Int) : FullSt (useQ (Q.set n (b.put l false)) n s) i pin := by
  have ha := set_at (b' := b.put l false) hn
  refine ⟨?_, ?_, ?_⟩
  · rw [useQ_length ha, List.length_set, h.len]
  · refine (useQ_keys ha s).trans ?_
    rw [set_keys (b' := b.put l false) hn rfl]
    exact h.keys
  · refine useQ_all ha s (p := fun b => b.dirty = !pin ∧ b.pins = if pin then 1 else 0) (fun x s hx => hx) fun x hx => ?_
    rcases List.mem_or_eq_of_mem_set hx with hx | rfl
    · exact h.all x hx
    · have := h.all b (List.mem_of_getElem? hn)
      exact ⟨by show (b.dirty || false) = _; rw [Bool.or_false]; exact this.1, this.2⟩
/-- Just one of the buffers may go. -/
structure FreeSt (Q : List Bf) (m : Nat) (j : Nat) (b0 : Bf) (R : List Bf) : Prop where
  perm : Q.Perm (b0 :: R)
  stuck : ∀ b ∈ R, stuckB b = true
  free : stuckB b0 = false
  key : b0.key = (0, (j : Int))
  len : Q.length = m
  keys : (Q.map Bf.key).Perm ((List.range m).map fun (j : Nat) => ((0 : Int), (j : Int)))
theorem FullSt.free {Q : List Bf} {m n j : Nat} {pin : Bool} {b b' : Bf} (h : FullSt Q m pin) (hn : Q[n]? = some b) (hk : b.key = (0, (j : Int))) (hb : b'.key = b.key) (hs : stuckB b' = false) : FreeSt (Q.set n b') m j b' (Q.eraseIdx n) :=
  ⟨set_perm (erase_perm _ _ _ hn).symm hn, fun b hb => h.stuck b (List.mem_of_mem_eraseIdx hb), hs, hb.trans hk, by rw [List.length_set, h.len], by rw [set_keys hn hb]; exact h.keys⟩
theorem FreeSt.at {Q R : List Bf} {m j : Nat} {b0 : Bf} (h : FreeSt Q m j b0 R) : ∃ (n : Nat), Q[n]? = some b0 := perm_at h.perm
theorem FreeSt.use {Q R : List Bf} {m j n : Nat} {b0 : Bf} (h : FreeSt Q m j b0 R) (hn : Q[n]? = some b0) (s : Int) : FreeSt (useQ Q n s) m j (b0.setStamp s) R :=
  ⟨(useQ_perm hn s).trans (set_perm h.perm hn), h.stuck, h.free, h.key, by rw [useQ_length hn, h.len], (useQ_keys hn s).trans h.keys⟩
theorem FreeSt.fresh {Q R : List Bf} {m j : Nat} {b0 : Bf} (h : FreeSt Q m j b0 R) {z : Int} (hz : (m : Int) ≤ z) : ((0 : Int), z) ∉ Q.map Bf.key := fun hx => by
  obtain ⟨j, hj, he⟩ := List.mem_map.1 (h.keys.mem_iff.1 hx)
  rw [List.mem_range] at hj
  have : (j : Int) = z := (Prod.mk.inj he).2
  omega
theorem FreeSt.ev {Q R : List Bf} {m j : Nat} {b0 : Bf} (h : FreeSt Q m j b0 R) : evX Q = some b0 :=
  evX_one (h.perm.mem_iff.2 List.mem_cons_self) h.free fun b hb => (List.mem_cons.1 (h.perm.mem_iff.1 hb)).imp id (h.stuck b)
theorem FreeSt.evF {Q R : List Bf} {m j : Nat} {b0 : Bf} (h : FreeSt Q m j b0 R) : (evF Q).Perm R := by
  have := evF_perm Q
  rw [h.ev] at this
  exact (this.trans h.perm).cons_inv
/-- Behind the last Put the one that might go is gone. -/
theorem FreeSt.gone {Q R Q' : List Bf} {m j : Nat} {b0 x : Bf} (h : FreeSt Q m j b0 R) (hp : Q'.Perm (x :: Go.Proofs.Ytjldocpjoiibjaa.evF Q)) (hx : x.key = (0, 1000)) (hj : j < 1000) (hnd : (Q.map Bf.key).Nodup) : (0, (j : Int)) ∉ Q'.map Bf.key ∧ Q'.length = m := by
  have hp2 := hp.trans (h.evF.cons x)
  refine ⟨fun hm => ?_, ?_⟩
  · have h1 := (hp2.map Bf.key).mem_iff.1 hm
    rw [List.map_cons, hx, List.mem_cons] at h1
    rcases h1 with h1 | h1
    · have : (j : Int) = 1000 := (Prod.mk.inj h1).2
      omega
    · have h2 := (h.perm.map Bf.key).nodup_iff.1 hnd
      rw [List.map_cons, h.key] at h2
      exact (List.nodup_cons.1 h2).1 h1
  · rw [hp2.length_eq, ← h.len, h.perm.length_eq]; rfl
end Go.Proofs.Ytjldocpjoiibjaa
