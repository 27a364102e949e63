/- The blocks of pointers that are there are just those on the ways to data with addresses; what a law holds of the world at its map. -/
import Derived.Test.YtklamgijikcnaaaDoorF20
namespace Go.Proofs.YtklamgijikcnaaaDoor
open Go.RowKit

theorem path_ups : ∀ i : Nat, i < 600 → ∀ k ∈ (pathN (i : Int)).map (·.1), k = (upN (i : Int)).1 ∨ k = (upN (upN (i : Int)).1).1 ∧ (upN (i : Int)).1 ≠ 600 ∨ k = (upN (upN (upN (i : Int)).1).1).1 ∧ (upN (upN (i : Int)).1).1 ≠ 600 ∧ (upN (i : Int)).1 ≠ 600 := by decide +kernel
section
variable {d : Int → Int} {m : MM}
theorem Inv.up (h : Inv d m) {c : Int} (hc : c ∈ nodesN) (hb : hasB d m c = true) (h6 : (upN c).1 ≠ 600) : (m (upN c).1).isSome = true := by
  obtain ⟨hm, _⟩ := (node_up hc).resolve_left h6
  cases hq : m (upN c).1 with
  | some v => rfl
  | none =>
    have := h.j.no _ hm hq
    have h2 : 0 < cntN (hasB d m) (upN c).1 := by
      unfold cntN
      exact List.countP_pos_iff.2 ⟨c, mem_kids.2 ⟨hc, rfl⟩, hb⟩
    omega
theorem hasB_meta {k : Int} (hk : (m k).isSome = true) : hasB d m k = true := by unfold hasB; rw [hk]; simp
theorem cov_down (h : Inv d m) : ∀ (t : Nat) (k : Int), lvlN k ≤ t → (m k).isSome = true → ∃ i : Nat, i < 600 ∧ d i ≠ 0 ∧ k ∈ (pathN (i : Int)).map (·.1)
  | 0, k, hl, hk => by have := (metas_find k (h.metas hk)).2.1; omega
  | t + 1, k, hl, hk => by
    obtain ⟨⟨a, u⟩, hv⟩ := Option.isSome_iff_exists.1 hk
    have hkm := h.metas hk
    obtain ⟨h1, h2⟩ := h.j.cnt k a u hv
    have h3 : 0 < cntN (hasB d m) k := by omega
    unfold cntN at h3
    obtain ⟨c, hc, hb⟩ := List.countP_pos_iff.1 h3
    obtain ⟨hcn, hcu⟩ := mem_kids.1 hc
    have h6 : (upN c).1 ≠ 600 := fun e => off600 (by rw [← e, hcu]; exact hkm)
    rcases mem_nodes.1 hcn with ⟨c0, c1⟩ | hcm
    · obtain ⟨i, rfl, hi⟩ : ∃ i : Nat, c = i ∧ i < 600 := ⟨c.toNat, by omega, by omega⟩
      refine ⟨i, hi, ?_, ?_⟩
      · unfold hasB at hb
        rw [h.data c0] at hb
        simpa using hb
      · rw [← hcu]
        exact (data_path i hi).resolve_left fun e => h6 e.1
    · have hcs : (m c).isSome = true := by
        unfold hasB at hb
        rw [h.neg (metasN_neg c hcm).1] at hb
        simpa using hb
      have hll := ((node_up hcn).resolve_left h6).2
      rw [hcu] at hll
      obtain ⟨i, hi, hd, hp⟩ := cov_down h t c (by omega) hcs
      refine ⟨i, hi, hd, ?_⟩
      rw [← hcu]
      exact ((path_up i hi c hp).2).resolve_left h6
theorem cov (h : Inv d m) (k : Int) : (m k).isSome = true ↔ ∃ i : Nat, i < 600 ∧ d i ≠ 0 ∧ k ∈ (pathN (i : Int)).map (·.1) := by
  refine ⟨fun hk => cov_down h _ k (Nat.le_refl _) hk, fun ⟨i, hi, hd, hp⟩ => ?_⟩
  have hin : (i : Int) ∈ nodesN := mem_nodes.2 (.inl ⟨by omega, by omega⟩)
  have hb : hasB d m i = true := by unfold hasB; simp [hd]
  have hkm := (path_up i hi k hp).1
  have hk6 : k ≠ 600 := fun e => off600 (e ▸ hkm)
  rcases path_ups i hi k hp with e | ⟨e, h6⟩ | ⟨e, h6, h7⟩
  · rw [e] at hk6 ⊢
    exact h.up hin hb hk6
  · rw [e] at hk6 ⊢
    have h1 := h.up hin hb h6
    exact h.up (mem_nodes.2 (.inr (h.metas h1))) (hasB_meta h1) hk6
  · rw [e] at hk6 ⊢
    have h1 := h.up hin hb h7
    have h2 := h.up (mem_nodes.2 (.inr (h.metas h1))) (hasB_meta h1) h6
    exact h.up (mem_nodes.2 (.inr (h.metas h2))) (hasB_meta h2) hk6
theorem Inv.none_of (h : Inv d m) (hd : ∀ n, d n = 0) (k : Int) : m k = none := by
  cases hq : m k with
  | none => rfl
  | some v =>
    obtain ⟨i, _, hi, _⟩ := (cov h k).1 (by rw [hq]; rfl)
    exact absurd (hd i) hi
end
theorem RowI.off_tag {w : World} {B g : Nat} {v : Value} {l : List Int} (h : RowI w B v l) (h0 : 0 < l.length) (ht : Tag w g) : ¬ v.ownBlock = some g := fun e => by
  obtain ⟨a, c, rfl, _, hr⟩ := h
  obtain ⟨b, cur, rfl, _, hb, _⟩ := hr h0
  injection e with e
  subst e
  rcases ht with ⟨es, c, hm⟩ | ⟨cs, t, z, hc, ht⟩
  · rw [hb] at hm; injection hm with hm; cases hm
  · rw [hb] at hc
    injection hc with hc
    injection hc with _ hc _
    rcases ht with rfl | rfl <;> exact absurd hc (by decide)
/-- A map of the call's own; W is the world at the call. -/
structure One (W w : World) (fb : Nat) (d : Int → Int) (m : MM) (F : Nat → Prop) : Prop where
  f : FAt w fb d m F
  inv : Inv d m
  tag : ∀ x, F x → Tag w x
  low : ∀ x, F x → W.heap.size ≤ x
  bel : Below W.heap.size W w
  sp : 0 < W.heap.size
section
variable {W w w' : World} {fb : Nat} {d d' : Int → Int} {m m' : MM} {F F' : Nat → Prop}
theorem Tag.fr {S : Nat → Prop} {x : Nat} (h : Tag w x) (hx : x < w.heap.size) (hf : Fr S w w') (hs : ¬ S x) : Tag w' x := by
  unfold Tag
  rw [hf.block x hx hs]
  exact h
theorem One.mk' (h : FAt w fb d m F) (hi : Inv d m) (hl : ∀ x, F x → W.heap.size ≤ x) (hb : Below W.heap.size W w) (hs : 0 < W.heap.size) : One W w fb d m fun x => F x ∧ Tag w x :=
  ⟨h.tight, hi, fun _ hx => hx.2, fun x hx => hl x hx.1, hb, hs⟩
theorem One.step (T : One W w fb d m F) (h : FAt w' fb d' m' F') (hi : Inv d' m') (ha : Aft w w' F F') : One W w' fb d' m' fun x => F' x ∧ Tag w' x :=
  One.mk' h hi (fun x hx => (ha.new x hx).elim (T.low x) fun h => Nat.le_trans T.bel.size h) (T.bel.trans (ha.fr.toBelow (B := W.heap.size) T.bel.size T.low)) T.sp
theorem One.fr {S : Nat → Prop} (T : One W w fb d m F) (hf : Fr S w w') (hs : ∀ x, F x → ¬ S x) (hl : ∀ x, S x → W.heap.size ≤ x) : One W w' fb d m F :=
  ⟨T.f.fr hf hs fun h0 => by have := hl _ h0; have := T.sp; omega, T.inv, fun x hx => (T.tag x hx).fr (T.f.lt x hx) hf (hs x hx), T.low, T.bel.trans (hf.toBelow (B := W.heap.size) T.bel.size hl), T.sp⟩
theorem One.alloc (T : One W w fb d m F) (o : Obj) : One W (w.alloc o) fb d m F := by
  have hb : Below w.heap.size w (w.alloc o) := (Below.refl _ w).alloc (Nat.le_refl _) o
  exact ⟨T.f.below hb, T.inv, fun x hx => (T.tag x hx).fr (S := fun _ => False) (T.f.lt x hx) (Fr.below hb) id, T.low, below_call T.bel hb (Nat.le_refl _), T.sp⟩
/-- A row beside the map stays, whatever the map does. -/
theorem One.row (T : One W w fb d m F) (ha : Aft w w' F F') {B : Nat} {v : Value} {l : List Int} (h : RowI w B v l) : RowI w' B v l :=
  h.fr' ha.fr fun h0 _ hg hx => h.off_tag h0 (T.tag _ hx) hg
theorem One.own (T : One W w fb d m F) (ha : Aft w w' F F') {B : Nat} {v : Value} {l : List Int} (h : OwnI w B v l) : OwnI w' B v l :=
  h.fr ha.fr fun _ hg hx => h.off_tag (T.tag _ hx) hg
theorem One.below (T : One W w fb d m F) (hb : Below w.heap.size w w') : One W w' fb d m F :=
  ⟨T.f.below hb, T.inv, fun x hx => (T.tag x hx).fr (S := fun _ => False) (T.f.lt x hx) (Fr.below hb) id, T.low, below_call T.bel hb (Nat.le_refl _), T.sp⟩
end
end Go.Proofs.YtklamgijikcnaaaDoor
