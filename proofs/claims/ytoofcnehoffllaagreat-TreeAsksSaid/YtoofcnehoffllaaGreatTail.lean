/- A region that draws its order: operations that yield one value each whatever came up besides, in a class of worlds; then, one behind another, operations that wait for all ahead of them and may write. -/
import Derived.Test.YtoofcnehoffllaaGreatVals
namespace Go.Proofs.YtoofcnehoffllaaGreat
open Go.RowKit

section
variable {P : Program} {ops : Array Oper} {Q : Exit → Act → World → Prop}
variable (frame : (Nat → Value) → Act) (V : Nat → Value) (R : Nat → World → Prop) (n : Nat)
/-- One operation: ahead of n in the class R n; from n on from R i to R (i + 1). -/
def TailOK (P : Program) (ops : Array Oper) (Q : Exit → Act → World → Prop) (i : Nat) (o : Oper) : Prop :=
  ∀ y w, R (if i < n then n else i) w → (∀ p ∈ predsL o, y p = V p) → ∀ K : Act → World → Prop, (∀ a' w', a' = frame (updV y i (V i)) → R (if i < n then n else i + 1) w' → K a' w') →
    if Region.wanted o (yielded ops (frame y).tmps) = true then Oper.wp P o (frame y) w K Q else K ((frame y).put o.dst undef) w
def TailsOK (P : Program) (ops : Array Oper) (Q : Exit → Act → World → Prop) : Nat → List Oper → Prop
  | _, [] => True
  | i, o :: rest => TailOK frame V R n P ops Q i o ∧ TailsOK P ops Q (i + 1) rest
variable {frame V R n}
theorem TailsOK.at : ∀ {l : List Oper} {i : Nat}, TailsOK frame V R n P ops Q i l → ∀ {j : Nat} {o : Oper}, l[j]? = some o → TailOK frame V R n P ops Q (i + j) o
  | [], _, _, _, _, h => by simp at h
  | x :: l, i, h, 0, o, ho => by
    simp at ho
    subst ho
    exact h.1
  | x :: l, i, h, j + 1, o, ho => by
    have := h.2.at (j := j) (o := o) (by simpa using ho)
    rw [show i + (j + 1) = i + 1 + j by omega]
    exact this
theorem wp_region_tail {id : Nat} {a : Act} {w : World} (y0 : Nat → Value) (hm : P.follows .mixedOrders = true) (hlow : predsLow 0 ops.toList = true) (hn : n ≤ ops.size) (hlast : ∀ i, n ≤ i → ∀ o, ops[i]? = some o → ∀ k, k < i → k ∈ predsL o)
    (ha : a = frame y0) (hC : R n w.drew) (hs : TailsOK frame V R n P ops Q 0 ops.toList)
    (he : ∀ y w, (∀ k, k < ops.size → y k = V k) → R ops.size w → Q .normal (frame y) w) : (Code.region id ops true).wp P Q a w := by
  refine wp_region_facts (Γ := Nat → Bool) (frame := frame) (I := fun b γ w => b = γ ∧ ∃ m, (n ≤ m ∧ m ≤ ops.size) ∧ (n < m → ∀ k, k < m → γ k = true) ∧ (∀ k, m ≤ k → γ k = false) ∧ R m w)
    (F := fun k y γ _ => γ k = true ∧ y k = V k) (cons := fun _ => []) y0 (fun _ => false) hm hlow ha ⟨rfl, n, ⟨Nat.le_refl _, hn⟩, fun h => absurd h (Nat.lt_irrefl _), fun _ _ => rfl, hC⟩ ?_ ?_
  · refine steps_of (F := fun i o => ops[i]? = some o) _ _ (fun j o ho => by rw [Nat.zero_add]; simpa using ho) fun i o ho => ?_
    have hv := hs.at (j := i) (o := o) (by simpa using ho)
    rw [Nat.zero_add] at hv
    intro y γ w b hb hI hp K hK
    obtain ⟨rfl, m, ⟨hnm, hms⟩, h1, h2, hR⟩ := hI
    have hself : updB b i i = true := by unfold updB; rw [if_pos rfl]
    have hoth : ∀ k, b k = true → updB b i k = true := fun k hk => by unfold updB; split; rfl; exact hk
    by_cases hin : i < n
    · have hmn : m = n := Classical.byContradiction fun hc => by
        have := h1 (by omega) i (by omega)
        rw [hb] at this; cases this
      subst hmn
      refine hv y w (by rw [if_pos hin]; exact hR) (fun p hpp => (hp p hpp fun c hc => by cases hc).2) K fun a' w' ha' hw' => hK _ (updB b i) a' w' ha' ⟨rfl, m, ⟨Nat.le_refl _, hms⟩, fun h => absurd h (Nat.lt_irrefl _), fun k hk => ?_, by rw [if_pos hin] at hw'; exact hw'⟩ ⟨hself, updV_self⟩ fun k ok hok hk _ _ hF => ⟨hoth k hF.1, (updV_other hk).trans hF.2⟩
      unfold updB
      rw [if_neg (by omega)]
      exact h2 k hk
    · have hle : m ≤ i := Classical.byContradiction fun hc => by
        have := h1 (by omega) i (by omega)
        rw [hb] at this; cases this
      have hmi : m = i := Nat.le_antisymm hle (Classical.byContradiction fun hc => by
        have hk := hlast i (by omega) o ho m (by omega)
        have h3 := (hp m hk fun c hc => by cases hc).1
        rw [h2 m (Nat.le_refl _)] at h3; cases h3)
      subst hmi
      refine hv y w (by rw [if_neg hin]; exact hR) (fun p hpp => (hp p hpp fun c hc => by cases hc).2) K fun a' w' ha' hw' => hK _ (updB b m) a' w' ha' ⟨rfl, m + 1, ⟨by omega, (Array.getElem?_eq_some_iff.1 ho).1⟩, fun _ k hk => ?_, fun k hk => ?_, by rw [if_neg hin] at hw'; exact hw'⟩ ⟨hself, updV_self⟩ fun k ok hok hk _ _ hF => ⟨hoth k hF.1, (updV_other hk).trans hF.2⟩
      · by_cases e : k = m
        · rw [e]; exact hself
        · exact hoth k (hp k (hlast m (by omega) o ho k (by omega)) fun c hc => by cases hc).1
      · unfold updB
        rw [if_neg (by omega)]
        exact h2 k (by omega)
  · rintro y γ w b hall ⟨rfl, m, ⟨hnm, hmz⟩, h1, h2, hR⟩ hF
    have hms : ops.size ≤ m := Classical.byContradiction fun hc => by
      have := h2 m (Nat.le_refl _)
      rw [hall m (by omega)] at this; cases this
    refine he y w (fun k hk => (hF k hk rfl).2) ?_
    rw [← Nat.le_antisymm hmz hms]; exact hR
end
end Go.Proofs.YtoofcnehoffllaaGreat
