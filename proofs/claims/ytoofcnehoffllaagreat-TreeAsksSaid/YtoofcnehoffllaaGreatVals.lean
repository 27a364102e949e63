/- A region that draws its order, by an invariant over what has come up: each operation is met once, whatever came up besides. -/
/- A region that draws its order, each of whose operations yields one value whatever came up besides; the last one waits for all others and may write. -/
import Derived.Test.YtoofcnehoffllaaGreatBase
import Derived.RegionTactic
namespace Go.Proofs.YtoofcnehoffllaaGreat
open Go.RowKit

section
variable {P : Program} {ops : Array Oper} {Q : Exit → Act → World → Prop} {md : Region.Mode} {S : Array Bool → Act → World → Prop}
/-- How many have not come up. -/
def unlisted (L : Array Bool) : Nat := L.toList.countP fun b => !b
theorem unlisted_set : ∀ (l : List Bool) (i : Nat), l[i]? = some false → (l.set i true).countP (fun b => !b) + 1 = l.countP fun b => !b
  | [], i, h => by simp at h
  | b :: l, 0, h => by
    simp at h
    subst h
    simp
  | b :: l, i + 1, h => by
    have := unlisted_set l i (by simpa using h)
    simp only [List.set_cons_succ, List.countP_cons]
    omega
theorem ready_false {i : Nat} {L : Array Bool} (h : i ∈ Region.ready md ops L) : L.toList[i]? = some false := by
  have := (mem_ready.1 h).1
  rw [Array.getElem?_toList]
  by_cases hi : i < L.size
  · rw [Array.getD_eq_getD_getElem?, Array.getElem?_eq_getElem hi] at this
    rw [Array.getElem?_eq_getElem hi]
    simpa using this
  · rw [Array.getD_eq_getD_getElem?, Array.getElem?_eq_none (by omega)] at this
    simp at this
theorem wpAny_inv (hs : ∀ i o L a w, ops[i]? = some o → i ∈ Region.ready md ops L → S L a w → ∀ K : Act → World → Prop, (∀ a' w', S (L.setIfInBounds i true) a' w' → K a' w') → if Region.wanted o (yielded ops a.tmps) = true then Oper.wp P o a w K Q else K (a.put o.dst undef) w)
    (he : ∀ L a w, S L a w → Region.ready md ops L = [] → Q .normal a w) :
    ∀ (fuel : Nat) (L : Array Bool) (a : Act) (w : World), unlisted L ≤ fuel → S L a w → wpAny P md ops Q fuel L a w
  | 0, L, a, w, hc, h => by
    have h0 : Region.ready md ops L = [] := by
      cases hr : Region.ready md ops L with
      | nil => rfl
      | cons i l =>
        have := unlisted_set L.toList i (ready_false (md := md) (ops := ops) (by rw [hr]; exact List.mem_cons_self))
        unfold unlisted at hc
        omega
    exact ⟨h0, he L a w h h0⟩
  | fuel + 1, L, a, w, hc, h => ⟨he L a w h, fun i hi => by
      obtain ⟨_, o, ho, _⟩ := mem_ready.1 hi
      refine wpOp_step ho fun K hK => hs i o L a w ho hi h K fun a' w' h' => hK a' w' (wpAny_inv hs he fuel _ a' w' ?_ h')
      have := unlisted_set L.toList i (ready_false hi)
      unfold unlisted at hc ⊢
      rw [Array.toList_setIfInBounds]
      omega⟩
theorem wp_region_inv {id : Nat} {a : Act} {w : World} (hm : P.follows .mixedOrders = true) (h0 : S (Array.replicate ops.size false) a w.drew)
    (hs : ∀ i o L a w, ops[i]? = some o → i ∈ Region.ready .any ops L → S L a w → ∀ K : Act → World → Prop, (∀ a' w', S (L.setIfInBounds i true) a' w' → K a' w') → if Region.wanted o (yielded ops a.tmps) = true then Oper.wp P o a w K Q else K (a.put o.dst undef) w)
    (he : ∀ L a w, S L a w → Region.ready .any ops L = [] → Q .normal a w) : (Code.region id ops true).wp P Q a w := by
  refine wp_region_any hm (wpAny_inv hs he ops.size _ a _ ?_ h0)
  unfold unlisted
  exact Nat.le_trans List.countP_le_length (by simp)
/-- What must have come up before it. -/
def predsL (o : Oper) : List Nat := (o.after.toList.filter (Region.binds .any)).map (·.on)
def updB (b : Nat → Bool) (i : Nat) : Nat → Bool := fun k => if k = i then true else b k
def updV (y : Nat → Value) (i : Nat) (v : Value) : Nat → Value := fun k => if k = i then v else y k
theorem updV_self {y : Nat → Value} {i : Nat} {v : Value} : updV y i v i = v := if_pos rfl
theorem updV_other {y : Nat → Value} {i k : Nat} {v : Value} (h : k ≠ i) : updV y i v k = y k := if_neg h
section
variable {Γ : Type} (frame : (Nat → Value) → Act) (I : (Nat → Bool) → Γ → World → Prop) (F : Nat → (Nat → Value) → Γ → World → Prop) (cons : Nat → List Nat)
/-- Operation number i, o, met once: what its forerunners say serves; its own word comes true, no other's is lost that may still be asked. -/
def StepOK (P : Program) (ops : Array Oper) (Q : Exit → Act → World → Prop) (i : Nat) (o : Oper) : Prop :=
  ∀ y γ w b, b i = false → I b γ w → (∀ p ∈ predsL o, (∀ c ∈ cons p, c = i) → F p y γ w) →
    ∀ K : Act → World → Prop, (∀ v γ' a' w', a' = frame (updV y i v) → I (updB b i) γ' w' → F i (updV y i v) γ' w' →
        (∀ k ok, ops[k]? = some ok → k ≠ i → i ∉ predsL ok → (∀ c ∈ cons k, c ≠ i ∧ c ∉ predsL o) → F k y γ w → F k (updV y i v) γ' w') → K a' w') →
      if Region.wanted o (yielded ops (frame y).tmps) = true then Oper.wp P o (frame y) w K Q else K ((frame y).put o.dst undef) w
def StepsOK (P : Program) (ops : Array Oper) (Q : Exit → Act → World → Prop) : Nat → List Oper → Prop
  | _, [] => True
  | i, o :: rest => StepOK frame I F cons P ops Q i o ∧ StepsOK P ops Q (i + 1) rest
variable {frame I F cons}
theorem StepsOK.at : ∀ {l : List Oper} {i : Nat}, StepsOK frame I F cons P ops Q i l → ∀ {j : Nat} {o : Oper}, l[j]? = some o → StepOK frame I F cons P ops Q (i + j) o
  | [], _, _, _, _, h => by simp at h
  | x :: l, i, h, 0, o, ho => by
    simp at ho
    subst ho
    exact h.1
  | x :: l, i, h, j + 1, o, ho => by
    have := h.2.at (j := j) (o := o) (by simpa using ho)
    rw [show i + (j + 1) = i + 1 + j by omega]
    exact this
def FactsS (ops : Array Oper) (frame : (Nat → Value) → Act) (I : (Nat → Bool) → Γ → World → Prop) (F : Nat → (Nat → Value) → Γ → World → Prop) (cons : Nat → List Nat) (L : Array Bool) (a : Act) (w : World) : Prop :=
  L.size = ops.size ∧ (∀ k ok, ops[k]? = some ok → L.getD k false = true → ∀ p ∈ predsL ok, L.getD p false = true) ∧
    ∃ y γ, a = frame y ∧ I (fun k => L.getD k false) γ w ∧ ∀ k, L.getD k false = true → (∀ c ∈ cons k, L.getD c false = false) → F k y γ w
theorem getD_set_self {L : Array Bool} {i : Nat} (h : i < L.size) : (L.setIfInBounds i true).getD i false = true := by simp [h]
theorem getD_set_other {L : Array Bool} {i k : Nat} (h : k ≠ i) : (L.setIfInBounds i true).getD k false = L.getD k false := by
  simp only [Array.getD_eq_getD_getElem?]
  rw [Array.getElem?_setIfInBounds_ne (Ne.symm h)]
theorem getD_none {n k : Nat} : (Array.replicate n false).getD k false = false := by
  rw [Array.getD_eq_getD_getElem?, Array.getElem?_replicate]
  split <;> rfl
/-- Each one's forerunners stand ahead of it. -/
def predsLow : Nat → List Oper → Bool
  | _, [] => true
  | i, o :: l => (predsL o).all (fun p => decide (p < i)) && predsLow (i + 1) l
theorem predsLow.at : ∀ {l : List Oper} {i : Nat}, predsLow i l = true → ∀ {j : Nat} {o : Oper}, l[j]? = some o → ∀ p ∈ predsL o, p < i + j
  | [], _, _, _, _, h => by simp at h
  | x :: l, i, h, 0, o, ho => by
    simp at ho
    subst ho
    unfold predsLow at h
    rw [Bool.and_eq_true] at h
    intro p hp
    simpa using List.all_eq_true.1 h.1 p hp
  | x :: l, i, h, j + 1, o, ho => by
    unfold predsLow at h
    rw [Bool.and_eq_true] at h
    have := predsLow.at h.2 (j := j) (o := o) (by simpa using ho)
    rw [show i + (j + 1) = i + 1 + j by omega]
    exact this
theorem wp_region_facts {id : Nat} {a : Act} {w : World} (y0 : Nat → Value) (γ0 : Γ) (hm : P.follows .mixedOrders = true) (hlow : predsLow 0 ops.toList = true) (ha : a = frame y0) (hI : I (fun _ => false) γ0 w.drew)
    (hs : StepsOK frame I F cons P ops Q 0 ops.toList)
    (he : ∀ y γ w b, (∀ k, k < ops.size → b k = true) → I b γ w → (∀ k, k < ops.size → cons k = [] → F k y γ w) → Q .normal (frame y) w) : (Code.region id ops true).wp P Q a w := by
  refine wp_region_inv (S := FactsS ops frame I F cons) hm ⟨by simp, ?_, y0, γ0, ha, by rw [show (fun k => (Array.replicate ops.size false).getD k false) = fun _ => false from funext fun k => getD_none]; exact hI, ?_⟩ ?_ ?_
  · intro k ok _ h
    rw [getD_none] at h
    cases h
  · intro k h
    rw [getD_none] at h
    cases h
  · rintro i o L a w ho hr ⟨hz, hcl, y, γ, rfl, hI, hF⟩ K hK
    obtain ⟨hi, o', ho', hall⟩ := mem_ready.1 hr
    obtain rfl : o = o' := Option.some.inj (ho.symm.trans ho')
    have hil : i < L.size := by
      rw [Array.getD_eq_getD_getElem?] at hi
      by_cases h : i < L.size
      · exact h
      · rw [Array.getElem?_eq_none (by omega)] at hi; simp at hi
    have hi0 : L.getD i false = false := by
      rw [Array.getD_eq_getD_getElem?, Array.getElem?_eq_getElem hil] at hi ⊢
      simpa using hi
    have hpl : ∀ p ∈ predsL o, L.getD p false = true := fun p hp => by
      unfold predsL at hp
      obtain ⟨e, he, rfl⟩ := List.mem_map.1 hp
      rw [List.mem_filter] at he
      exact hall e (by simpa using he.1) he.2
    have hst := hs.at (j := i) (o := o) (by simpa using ho)
    rw [Nat.zero_add] at hst
    refine hst y γ w _ hi0 hI (fun p hp hc => hF p (hpl p hp) fun c hcc => by rw [hc c hcc]; exact hi0) K fun v γ' a' w' ha' hI' hFi hkeep => hK _ _ ⟨by simpa using hz, ?_, updV y i v, γ', ha', ?_, fun k hk hc => ?_⟩
    · intro k ok hok hk p hp
      by_cases e : p = i
      · rw [e]; exact getD_set_self hil
      · rw [getD_set_other e]
        by_cases ek : k = i
        · subst ek
          obtain rfl : ok = o := Option.some.inj (hok.symm.trans ho)
          exact hpl p hp
        · rw [getD_set_other ek] at hk
          exact hcl k ok hok hk p hp
    · rw [show (fun k => (L.setIfInBounds i true).getD k false) = updB (fun k => L.getD k false) i from funext fun k => by
        unfold updB
        by_cases ek : k = i
        · rw [if_pos ek, ek]; exact getD_set_self hil
        · rw [if_neg ek]; exact getD_set_other ek]
      exact hI'
    · by_cases ek : k = i
      · rw [ek]; exact hFi
      · rw [getD_set_other ek] at hk
        have hkl : k < ops.size := by
          rw [← hz]
          by_cases h : k < L.size
          · exact h
          · rw [Array.getD_eq_getD_getElem?, Array.getElem?_eq_none (by omega)] at hk; simp at hk
        have hok : ops[k]? = some ops[k] := Array.getElem?_eq_getElem hkl
        have hci : ∀ c ∈ cons k, c ≠ i := fun c hcc e => by
          have := hc c hcc
          rw [e, getD_set_self hil] at this
          cases this
        refine hkeep k _ hok ek (fun hp => ?_) (fun c hcc => ⟨hci c hcc, fun hp => ?_⟩) (hF k hk fun c hcc => ?_)
        · have := hcl k _ hok hk i hp
          rw [hi0] at this
          cases this
        · have h1 := hc c hcc
          rw [getD_set_other (hci c hcc), hpl c hp] at h1
          cases h1
        · have h1 := hc c hcc
          rwa [getD_set_other (hci c hcc)] at h1
  · rintro L a w ⟨hz, hcl, y, γ, rfl, hI, hF⟩ hr
    have hall : ∀ k, k < ops.size → L.getD k false = true := by
      intro k
      induction k using Nat.strongRecOn with
      | ind k ih =>
        intro hk
        cases hb : L.getD k false with
        | true => rfl
        | false =>
          exfalso
          have hlo : ∀ p ∈ predsL ops[k], L.getD p false = true := fun p hp => by
            have := predsLow.at hlow (j := k) (o := ops[k]) (by simp [Array.getElem?_eq_getElem hk]) p hp
            exact ih p (by omega) (by omega)
          have : k ∈ Region.ready .any ops L := mem_ready.2 ⟨by
            rw [Array.getD_eq_getD_getElem?, Array.getElem?_eq_getElem (by omega)] at hb ⊢
            simpa using hb, ops[k], Array.getElem?_eq_getElem hk, fun e he hbd => hlo _ (List.mem_map.2 ⟨e, List.mem_filter.2 ⟨by simpa using he, hbd⟩, rfl⟩)⟩
          rw [hr] at this
          cases this
    exact he y γ w _ hall hI fun k hk hc => hF k (hall k hk) fun c hcc => by rw [hc] at hcc; cases hcc
end
end
end Go.Proofs.YtoofcnehoffllaaGreat

namespace Go.Proofs.YtoofcnehoffllaaGreat
open Go.RowKit

section
variable {P : Program} {ops : Array Oper} {Q : Exit → Act → World → Prop}
variable (frame : (Nat → Value) → Act) (V : Nat → Value) (C R : World → Prop) (n : Nat)
def ValOK (P : Program) (ops : Array Oper) (Q : Exit → Act → World → Prop) (i : Nat) (o : Oper) : Prop :=
  ∀ y w, C w → (∀ p ∈ predsL o, p < n → y p = V p) → ∀ K : Act → World → Prop, (∀ a' w', a' = frame (updV y i (if i = n then undef else V i)) → (if i = n then R w' else C w') → K a' w') →
    if Region.wanted o (yielded ops (frame y).tmps) = true then Oper.wp P o (frame y) w K Q else K ((frame y).put o.dst undef) w
def ValsOK (P : Program) (ops : Array Oper) (Q : Exit → Act → World → Prop) : Nat → List Oper → Prop
  | _, [] => True
  | i, o :: rest => ValOK frame V C R n P ops Q i o ∧ ValsOK P ops Q (i + 1) rest
variable {frame V C R n}
theorem ValsOK.at : ∀ {l : List Oper} {i : Nat}, ValsOK frame V C R n P ops Q i l → ∀ {j : Nat} {o : Oper}, l[j]? = some o → ValOK frame V C R n P ops Q (i + j) o
  | [], _, _, _, _, h => by simp at h
  | x :: l, i, h, 0, o, ho => by
    simp at ho
    subst ho
    exact h.1
  | x :: l, i, h, j + 1, o, ho => by
    have := h.2.at (j := j) (o := o) (by simpa using ho)
    rw [show i + (j + 1) = i + 1 + j by omega]
    exact this
theorem steps_of : ∀ {F : Nat → Oper → Prop} (l : List Oper) (i : Nat), (∀ j o, l[j]? = some o → F (i + j) o) → ∀ {frame : (Nat → Value) → Act} {I : (Nat → Bool) → (Nat → Bool) → World → Prop} {G : Nat → (Nat → Value) → (Nat → Bool) → World → Prop} {cons : Nat → List Nat}, (∀ j o, F j o → StepOK frame I G cons P ops Q j o) → StepsOK frame I G cons P ops Q i l
  | F, [], _, _, _, _, _, _, _ => trivial
  | F, x :: l, i, h, frame, I, G, cons, hf => ⟨hf _ _ (h 0 x rfl), steps_of l (i + 1) (fun j o ho => by
      have := h (j + 1) o (by simpa using ho)
      rwa [show i + (j + 1) = i + 1 + j by omega] at this) hf⟩
theorem wp_region_vals {id : Nat} {a : Act} {w : World} (y0 : Nat → Value) (hm : P.follows .mixedOrders = true) (hlow : predsLow 0 ops.toList = true) (hn : ops.size = n + 1) (hlast : ∀ o, ops[n]? = some o → ∀ k, k < n → k ∈ predsL o)
    (ha : a = frame y0) (hC : C w.drew) (hs : ValsOK frame V C R n P ops Q 0 ops.toList)
    (he : ∀ y w, (∀ k, k < n → y k = V k) → R w → Q .normal (frame y) w) : (Code.region id ops true).wp P Q a w := by
  refine wp_region_facts (Γ := Nat → Bool) (frame := frame) (I := fun b γ w => b = γ ∧ ((γ n = false ∧ C w) ∨ (γ n = true ∧ (∀ k, k < n → γ k = true) ∧ R w)))
    (F := fun k y γ _ => γ k = true ∧ (k < n → y k = V k)) (cons := fun _ => []) y0 (fun _ => false) hm hlow ha ⟨rfl, .inl ⟨rfl, hC⟩⟩ ?_ ?_
  · refine steps_of (F := fun i o => ops[i]? = some o) _ _ (fun j o ho => by rw [Nat.zero_add]; simpa using ho) fun i o ho => ?_
    have hv := hs.at (j := i) (o := o) (by simpa using ho)
    rw [Nat.zero_add] at hv
    have hin : i < n + 1 := by rw [← hn]; exact (Array.getElem?_eq_some_iff.1 ho).1
    intro y γ w b hb hI hp K hK
    obtain ⟨rfl, hI⟩ := hI
    have hnf : b n = false ∧ C w := by
      rcases hI with h | ⟨h1, h2, _⟩
      · exact h
      · by_cases e : i = n
        · rw [← e, hb] at h1; cases h1
        · have := h2 i (by omega)
          rw [hb] at this; cases this
    refine hv y w hnf.2 (fun p hpp hpn => (hp p hpp fun c hc => by cases hc).2 hpn) K fun a' w' ha' hw' => hK _ (updB b i) a' w' ha' ⟨rfl, ?_⟩ ⟨by unfold updB; rw [if_pos rfl], fun hi => by rw [updV_self, if_neg (by omega)]⟩ fun k ok hok hk _ _ hF => ⟨by unfold updB; rw [if_neg hk]; exact hF.1, fun hkn => by rw [updV_other hk]; exact hF.2 hkn⟩
    by_cases e : i = n
    · rw [if_pos e] at hw'
      refine .inr ⟨by unfold updB; rw [if_pos e.symm], fun k hk => ?_, hw'⟩
      unfold updB
      rw [if_neg (by omega)]
      exact (hp k (hlast o (by rw [← e]; exact ho) k hk) fun c hc => by cases hc).1
    · rw [if_neg e] at hw'
      exact .inl ⟨by unfold updB; rw [if_neg (fun h => e h.symm)]; exact hnf.1, hw'⟩
  · rintro y γ w b hall ⟨rfl, hI⟩ hF
    have hbn := hall n (by omega)
    rcases hI with ⟨h, _⟩ | ⟨_, _, hR⟩
    · rw [h] at hbn; cases hbn
    · exact he y w (fun k hk => (hF k (by omega) rfl).2 hk) hR
/-! The values may hang on something that is chosen on the way (what a call answers): γ. -/
section
variable {Γ : Type} (frame : (Nat → Value) → Act) (V : Γ → Nat → Value) (C : Γ → (Nat → Bool) → World → Prop)
def GhostOK (P : Program) (ops : Array Oper) (Q : Exit → Act → World → Prop) (i : Nat) (o : Oper) : Prop :=
  ∀ γ y w b, b i = false → (∀ p ∈ predsL o, b p = true) → (∀ k ok, ops[k]? = some ok → b k = true → ∀ p ∈ predsL ok, b p = true) → C γ b w → (∀ p, b p = true → y p = V γ p) →
    ∀ K : Act → World → Prop, (∀ γ' a' w', a' = frame (updV y i (V γ' i)) → (∀ p, b p = true → V γ' p = V γ p) → C γ' (updB b i) w' → K a' w') →
    if Region.wanted o (yielded ops (frame y).tmps) = true then Oper.wp P o (frame y) w K Q else K ((frame y).put o.dst undef) w
def GhostsOK (P : Program) (ops : Array Oper) (Q : Exit → Act → World → Prop) : Nat → List Oper → Prop
  | _, [] => True
  | i, o :: rest => GhostOK frame V C P ops Q i o ∧ GhostsOK P ops Q (i + 1) rest
variable {frame V C}
theorem GhostsOK.at : ∀ {l : List Oper} {i : Nat}, GhostsOK frame V C P ops Q i l → ∀ {j : Nat} {o : Oper}, l[j]? = some o → GhostOK frame V C P ops Q (i + j) o
  | [], _, _, _, _, h => by simp at h
  | x :: l, i, h, 0, o, ho => by
    simp at ho
    subst ho
    exact h.1
  | x :: l, i, h, j + 1, o, ho => by
    have := h.2.at (j := j) (o := o) (by simpa using ho)
    rw [show i + (j + 1) = i + 1 + j by omega]
    exact this
theorem wp_region_ghost {id : Nat} {a : Act} {w : World} (γ0 : Γ) (y0 : Nat → Value) (hm : P.follows .mixedOrders = true) (hlow : predsLow 0 ops.toList = true)
    (ha : a = frame y0) (hC : C γ0 (fun _ => false) w.drew) (hs : GhostsOK frame V C P ops Q 0 ops.toList)
    (he : ∀ γ y w b, (∀ k, k < ops.size → b k = true) → (∀ k, k < ops.size → y k = V γ k) → C γ b w → Q .normal (frame y) w) : (Code.region id ops true).wp P Q a w := by
  refine wp_region_inv (S := fun L a w => L.size = ops.size ∧ (∀ k ok, ops[k]? = some ok → L.getD k false = true → ∀ p ∈ predsL ok, L.getD p false = true) ∧ ∃ γ y, a = frame y ∧ C γ (fun k => L.getD k false) w ∧ ∀ k, L.getD k false = true → y k = V γ k) hm ⟨by simp, ?_, γ0, y0, ha, ?_, ?_⟩ ?_ ?_
  · intro k ok _ h
    rw [getD_none] at h
    cases h
  · rw [show (fun k => (Array.replicate ops.size false).getD k false) = fun _ => false from funext fun k => getD_none]; exact hC
  · intro k h
    rw [getD_none] at h
    cases h
  · rintro i o L a w ho hr ⟨hz, hcl, γ, y, rfl, hI, hF⟩ K hK
    obtain ⟨hi, o', ho', hall⟩ := mem_ready.1 hr
    obtain rfl : o = o' := Option.some.inj (ho.symm.trans ho')
    have hil : i < L.size := by
      rw [Array.getD_eq_getD_getElem?] at hi
      by_cases h : i < L.size
      · exact h
      · rw [Array.getElem?_eq_none (by omega)] at hi; simp at hi
    have hi0 : L.getD i false = false := by
      rw [Array.getD_eq_getD_getElem?, Array.getElem?_eq_getElem hil] at hi ⊢
      simpa using hi
    have hpl : ∀ p ∈ predsL o, L.getD p false = true := fun p hp => by
      unfold predsL at hp
      obtain ⟨e, he, rfl⟩ := List.mem_map.1 hp
      rw [List.mem_filter] at he
      exact hall e (by simpa using he.1) he.2
    have hst := hs.at (j := i) (o := o) (by simpa using ho)
    rw [Nat.zero_add] at hst
    refine hst γ y w (fun k => L.getD k false) hi0 hpl hcl hI hF K fun γ' a' w' ha' hv hI' => hK _ _ ⟨by simpa using hz, ?_, γ', updV y i (V γ' i), ha', ?_, fun k hk => ?_⟩
    · intro k ok hok hk p hp
      by_cases e : p = i
      · rw [e]; exact getD_set_self hil
      · rw [getD_set_other e]
        by_cases ek : k = i
        · subst ek
          obtain rfl : ok = o := Option.some.inj (hok.symm.trans ho)
          exact hpl p hp
        · rw [getD_set_other ek] at hk
          exact hcl k ok hok hk p hp
    · rw [show (fun k => (L.setIfInBounds i true).getD k false) = updB (fun k => L.getD k false) i from funext fun k => by
        unfold updB
        by_cases ek : k = i
        · rw [if_pos ek, ek]; exact getD_set_self hil
        · rw [if_neg ek]; exact getD_set_other ek]
      exact hI'
    · by_cases ek : k = i
      · rw [ek, updV_self]
      · rw [getD_set_other ek] at hk
        rw [updV_other ek, hF k hk, hv k hk]
  · rintro L a w ⟨hz, hcl, γ, y, rfl, hI, hF⟩ hr
    have hall : ∀ k, k < ops.size → L.getD k false = true := by
      intro k
      induction k using Nat.strongRecOn with
      | ind k ih =>
        intro hk
        cases hb : L.getD k false with
        | true => rfl
        | false =>
          exfalso
          have hlo : ∀ p ∈ predsL ops[k], L.getD p false = true := fun p hp => by
            have := predsLow.at hlow (j := k) (o := ops[k]) (by simp [Array.getElem?_eq_getElem hk]) p hp
            exact ih p (by omega) (by omega)
          have : k ∈ Region.ready .any ops L := mem_ready.2 ⟨by
            rw [Array.getD_eq_getD_getElem?, Array.getElem?_eq_getElem (by omega)] at hb ⊢
            simpa using hb, ops[k], Array.getElem?_eq_getElem hk, fun e he hbd => hlo _ (List.mem_map.2 ⟨e, List.mem_filter.2 ⟨by simpa using he, hbd⟩, rfl⟩)⟩
          rw [hr] at this
          cases this
    exact he γ y w _ hall (fun k hk => hF k (hall k hk)) hI
end
end
end Go.Proofs.YtoofcnehoffllaaGreat
