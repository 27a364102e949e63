/- A node more in a tree, in memory. -/
import Derived.Test.YtoofcnehoffllaaT8
namespace Go.Proofs.Ytoofcnehoffllaa
open Go.RowKit

def updO (P : Nat → Option Nat) (i : Nat) (v : Option Nat) : Nat → Option Nat := fun x => if x = i then v else P x
theorem updO_self {P : Nat → Option Nat} {i : Nat} {v : Option Nat} : updO P i v i = v := if_pos rfl
theorem updO_other {P : Nat → Option Nat} {i x : Nat} {v : Option Nat} (h : x ≠ i) : updO P i v x = P x := if_neg h
def updE (f : ByteArray → Option Nat) (s : ByteArray) (v : Option Nat) : ByteArray → Option Nat := fun x => if x = s then v else f x
/-- A new node. -/
def freshNd (dir : Bool) : Nd := ⟨if dir then some fun _ => none else none, [], 1⟩
/-- A tree with a node i more, which the directory p has under a name. -/
def addM (M : TM) (i : Nat) (nd : Nd) (p : Nat) (s : ByteArray) : TM := fun x => if x = i then some nd else if x = p then (M p).map fun q => { q with ents := q.ents.map fun f => updE f s (some i) } else M x
section
variable {w w' : World} {tb nb cap : Nat} {P E : Nat → Option Nat} {V : Nat → Value} {M : TM}
theorem addM_i {i p : Nat} {nd : Nd} {s : ByteArray} : addM M i nd p s i = some nd := if_pos rfl
theorem addM_p {i p : Nat} {nd q : Nd} {s : ByteArray} (h : p ≠ i) (hm : M p = some q) : addM M i nd p s p = some { q with ents := q.ents.map fun f => updE f s (some i) } := by
  unfold addM
  rw [if_neg h, if_pos rfl, hm]; rfl
theorem addM_o {i p x : Nat} {nd : Nd} {s : ByteArray} (h1 : x ≠ i) (h2 : x ≠ p) : addM M i nd p s x = M x := by
  unfold addM
  rw [if_neg h1, if_neg h2]
theorem entF_upd {f : ByteArray → Option Nat} {i b : Nat} (hf : ∀ s j, f s = some j → j ≠ i) : entF (updO P i (some b)) f = entF P f := by
  funext s
  unfold entF
  cases hq : f s with
  | none => rfl
  | some j => show some (nptr (updO P i (some b) j)) = some (nptr (P j)); rw [updO_other (hf s j hq)]
theorem entF_put {f : ByteArray → Option Nat} {i b : Nat} {s : ByteArray} (hf : ∀ s j, f s = some j → j ≠ i) : entF (updO P i (some b)) (updE f s (some i)) = putK (entF P f) s (nptr (some b)) := by
  funext x
  by_cases e : x = s
  · subst e
    rw [putK_self]
    unfold entF updE
    rw [if_pos rfl]
    show some (nptr (updO P i (some b) i)) = _
    rw [updO_self]
  · rw [putK_other e, ← entF_upd (P := P) (b := b) hf]
    unfold entF updE
    rw [if_neg e]
theorem addM_ok (h : TOk M cap) {i p : Nat} {dir : Bool} {s : ByteArray} (hi : 2 ≤ i ∧ i < cap) (hn : M i = none) (hp : isDir M p = true) : TOk (addM M i (freshNd dir) p s) cap := by
  have hpi : p ≠ i := fun e => by rw [e] at hp; unfold isDir at hp; rw [hn] at hp; cases hp
  have hi2 : i ≠ 2 := fun e => by
    have := h.root
    unfold isDir at this
    rw [← e, hn] at this; cases this
  obtain ⟨q, hq⟩ : ∃ q, M p = some q := by
    cases hq : M p with
    | none => unfold isDir at hp; rw [hq] at hp; cases hp
    | some q => exact ⟨q, rfl⟩
  have hthere : ∀ j, (M j).isSome = true → (addM M i (freshNd dir) p s j).isSome = true := fun j hj => by
    by_cases e1 : j = i
    · rw [e1, addM_i]; rfl
    · by_cases e2 : j = p
      · rw [e2, addM_p hpi hq]; rfl
      · rw [addM_o e1 e2]; exact hj
  refine ⟨?_, fun x nd hx => ?_, fun x t j hx => ?_⟩
  · by_cases e : 2 = p
    · unfold isDir
      rw [e, addM_p hpi hq]
      unfold isDir at hp
      rw [hq] at hp
      show (q.ents.map _).isSome = true
      rw [Option.isSome_map]; exact hp
    · have := h.root
      unfold isDir at this ⊢
      rw [addM_o (fun e' => hi2 e'.symm) e]; exact this
  · by_cases e1 : x = i
    · rw [e1]; exact hi
    · by_cases e2 : x = p
      · rw [e2]; exact h.low p q hq
      · rw [addM_o e1 e2] at hx; exact h.low x nd hx
  · by_cases e1 : x = i
    · unfold entN at hx
      rw [e1, addM_i] at hx
      unfold freshNd at hx
      cases dir <;> cases hx
    · by_cases e2 : x = p
      · unfold entN at hx
        rw [e2, addM_p hpi hq] at hx
        cases hqe : q.ents with
        | none => rw [hqe] at hx; cases hx
        | some f =>
          rw [hqe] at hx
          have hx' : updE f s (some i) t = some j := hx
          unfold updE at hx'
          split at hx'
          · injection hx' with hx'
            rw [← hx', addM_i]; rfl
          · refine hthere j (h.ent p t j ?_)
            unfold entN
            rw [hq]
            show (match q.ents with | some f => f t | none => none) = some j
            rw [hqe]; exact hx'
      · unfold entN at hx
        rw [addM_o e1 e2] at hx
        exact hthere j (h.ent x t j hx)
end
end Go.Proofs.Ytoofcnehoffllaa
