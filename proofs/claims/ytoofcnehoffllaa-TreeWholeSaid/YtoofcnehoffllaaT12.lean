/- A tree's memory: a directory's map, a node's cells, a node that is gone. -/
import Derived.Test.YtoofcnehoffllaaT11
namespace Go.Proofs.Ytoofcnehoffllaa
open Go.RowKit

/-- A directory p with other entries. -/
def setE (M : TM) (p : Nat) (f : ByteArray → Option Nat) : TM := fun x => if x = p then (M p).map fun q => { q with ents := some f } else M x
/-- A node i with other links, and data. -/
def setN (M : TM) (i : Nat) (links : Int) (data : List Int) : TM := fun x => if x = i then (M i).map fun q => { q with links := links, data := data } else M x
/-- A node i is gone. -/
def killM (M : TM) (i : Nat) : TM := fun x => if x = i then none else M x
def updV' (V : Nat → Value) (i : Nat) (v : Value) : Nat → Value := fun x => if x = i then v else V x
section
variable {w w' : World} {tb nb cap : Nat} {P E : Nat → Option Nat} {V : Nat → Value} {M : TM}
theorem setE_p {p : Nat} {f : ByteArray → Option Nat} {q : Nd} (hq : M p = some q) : setE M p f p = some { q with ents := some f } := by
  unfold setE; rw [if_pos rfl, hq]; rfl
theorem setE_o {p x : Nat} {f : ByteArray → Option Nat} (h : x ≠ p) : setE M p f x = M x := if_neg h
theorem setN_i {i : Nat} {l : Int} {d : List Int} {q : Nd} (hq : M i = some q) : setN M i l d i = some { q with links := l, data := d } := by
  unfold setN; rw [if_pos rfl, hq]; rfl
theorem setN_o {i x : Nat} {l : Int} {d : List Int} (h : x ≠ i) : setN M i l d x = M x := if_neg h
theorem entN_of {i : Nat} {nd : Nd} {s : ByteArray} (hm : M i = some nd) : entN M i s = match nd.ents with | some f => f s | none => none := by unfold entN; rw [hm]; rfl
theorem entN_setE {p x : Nat} {f g : ByteArray → Option Nat} {q : Nd} {s : ByteArray} (hq : M p = some q) (_hg : q.ents = some g) : entN (setE M p f) x s = if x = p then f s else entN M x s := by
  by_cases e : x = p
  · rw [if_pos e, e, entN_of (setE_p hq)]
  · rw [if_neg e]
    unfold entN
    rw [setE_o e]
theorem entN_setN {i x : Nat} {l : Int} {d : List Int} {s : ByteArray} : entN (setN M i l d) x s = entN M x s := by
  unfold entN setN
  by_cases e : x = i
  · rw [if_pos e, e]
    cases M i <;> rfl
  · rw [if_neg e]
theorem isDir_setE {p x : Nat} {f g : ByteArray → Option Nat} {q : Nd} (hq : M p = some q) (hg : q.ents = some g) : isDir (setE M p f) x = isDir M x := by
  unfold isDir
  by_cases e : x = p
  · rw [e, setE_p hq, hq]; show true = q.ents.isSome; rw [hg]; rfl
  · rw [setE_o e]
theorem isDir_setN {i x : Nat} {l : Int} {d : List Int} : isDir (setN M i l d) x = isDir M x := by
  unfold isDir setN
  by_cases e : x = i
  · rw [if_pos e, e]
    cases M i <;> rfl
  · rw [if_neg e]
theorem some_setE {p x : Nat} {f : ByteArray → Option Nat} {q : Nd} (hq : M p = some q) : (setE M p f x).isSome = (M x).isSome := by
  by_cases e : x = p
  · rw [e, setE_p hq, hq]; rfl
  · rw [setE_o e]
theorem some_setN {i x : Nat} {l : Int} {d : List Int} : (setN M i l d x).isSome = (M x).isSome := by
  unfold setN
  by_cases e : x = i
  · rw [if_pos e, e]
    cases M i <;> rfl
  · rw [if_neg e]
theorem low_some {cap : Nat} (h : TOk M cap) {x : Nat} (hx : (M x).isSome = true) : 2 ≤ x ∧ x < cap := by
  obtain ⟨nd, hn⟩ := Option.isSome_iff_exists.1 hx
  exact h.low x nd hn
theorem setE_ok (h : TOk M cap) {p : Nat} {f g : ByteArray → Option Nat} {q : Nd} (hq : M p = some q) (hg : q.ents = some g) (hv : ∀ s j, f s = some j → (M j).isSome = true) : TOk (setE M p f) cap := by
  refine ⟨(isDir_setE hq hg).trans h.root, fun i nd hi => low_some h (x := i) (by rw [← some_setE (f := f) hq, hi]; rfl), fun i s j he => ?_⟩
  rw [some_setE hq]
  rw [entN_setE hq hg] at he
  by_cases e : i = p
  · rw [if_pos e] at he; exact hv s j he
  · rw [if_neg e] at he; exact h.ent i s j he
theorem setN_ok (h : TOk M cap) {i : Nat} {l : Int} {d : List Int} : TOk (setN M i l d) cap := by
  refine ⟨isDir_setN.trans h.root, fun x nd hi => low_some h (x := x) (by rw [← some_setN (i := i) (l := l) (d := d), hi]; rfl), fun x s j he => ?_⟩
  rw [some_setN]
  rw [entN_setN] at he
  exact h.ent x s j he
theorem entN_kill {i x : Nat} {s : ByteArray} : entN (killM M i) x s = if x = i then none else entN M x s := by
  unfold entN killM
  by_cases e : x = i
  · rw [if_pos e, if_pos e]
  · rw [if_neg e, if_neg e]
theorem kill_ok (h : TOk M cap) {i : Nat} (hi : i ≠ 2) (hno : ∀ p s, p ≠ i → entN M p s ≠ some i) : TOk (killM M i) cap := by
  refine ⟨?_, fun x nd hx => ?_, fun x s j he => ?_⟩
  · have := h.root
    unfold isDir killM at *
    rw [if_neg (fun e => hi e.symm)]; exact this
  · unfold killM at hx
    split at hx
    · cases hx
    · exact h.low x nd hx
  · rw [entN_kill] at he
    by_cases e : x = i
    · rw [if_pos e] at he; cases he
    · rw [if_neg e] at he
      have hj := h.ent x s j he
      unfold killM
      rw [if_neg (fun e' => hno x s e (by rw [he, e']))]
      exact hj
theorem TIn.off (h : TIn w tb nb cap P E V M) {x : Nat} {b : Nat} {nd : Nd} (hp : P x = some b) (hm : M x = some nd) {S : Nat → Prop} (hf : Fr S w w') (hs : ¬ S b) : w'.heap[b]? = some (.cells #[.int .i64 x, .map (E x), V x, .int .i64 nd.links] 67 (0, 0)) :=
  (hf.block b (blk_lt (h.node x b nd hp hm)) hs).trans (h.node x b nd hp hm)
theorem TIn.mapset (h : TIn w tb nb cap P E V M) {p pe : Nat} {q : Nd} {f g : ByteArray → Option Nat} (hq : M p = some q) (hg : q.ents = some g) (hpe : E p = some pe)
    (hmap : MapIs Value.string w' pe (entF P f)) (hv : ∀ s j, f s = some j → (M j).isSome = true) (hfr : Fr (fun x => x = pe) w w') : TIn w' tb nb cap P E V (setE M p f) := by
  obtain ⟨es, c, hpm⟩ := h.elt hpe
  obtain ⟨cs, hr, hz, hcs⟩ := h.row
  have noc : ∀ {b : Nat} {c : Array Value} {t : TypeId} {z : Nat × Nat}, w.heap[b]? = some (.cells c t z) → b ≠ pe := fun hb e => by rw [e, hpm] at hb; injection hb with hb; cases hb
  have oc : ∀ {b : Nat} {c : Array Value} {t : TypeId} {z : Nat × Nat}, w.heap[b]? = some (.cells c t z) → w'.heap[b]? = some (.cells c t z) := fun hb => (hfr.block _ (blk_lt hb) (noc hb)).trans hb
  have hdat : ∀ {x : Nat} {nd : Nd}, M x = some nd → w'.ownsRow 0 5 1 (V x) nd.data.length (u8s nd.data) := fun {x nd} hm => own_frame (h.data x nd hm) hfr fun g' hg' => by
    rcases (h.data x nd hm).2 with hh | ⟨g2, cap', cur, e, h1, hgg, hr'⟩
    · rw [hh.1] at hg'; cases hg'
    · rw [e] at hg'; injection hg' with hg'; rw [← hg']; exact noc hgg
  refine ⟨oc h.top, ⟨cs, oc hr, hz, hcs⟩, fun i => by rw [some_setE hq]; exact h.dom i, fun i b nd hp hm => ?_, fun i nd hm => ?_, fun i nd hm => ?_, h.pin, h.ein, h.vin, fun i hm => h.eno i ?_, setE_ok h.ok hq hg hv, h.capB⟩
  · by_cases e : i = p
    · rw [e] at hp hm ⊢
      rw [setE_p hq] at hm
      injection hm with hm
      subst hm
      exact oc (h.node p b q hp hq)
    · rw [setE_o e] at hm
      exact oc (h.node i b nd hp hm)
  · by_cases e : i = p
    · rw [e] at hm ⊢
      rw [setE_p hq] at hm
      injection hm with hm
      subst hm
      have := hdat hq
      exact this
    · rw [setE_o e] at hm
      exact hdat hm
  · by_cases e : i = p
    · rw [e] at hm ⊢
      rw [setE_p hq] at hm
      injection hm with hm
      subst hm
      exact ⟨pe, hpe, hmap⟩
    · rw [setE_o e] at hm
      have := h.ents i nd hm
      cases hne : nd.ents with
      | none => rw [hne] at this; exact this
      | some g' =>
        rw [hne] at this
        obtain ⟨eb, he, hM⟩ := this
        exact ⟨eb, he, hM.fr hfr fun e' => e (h.ein i p pe (by rw [he]; exact congrArg some e') hpe)⟩
  · have := some_setE (f := f) (x := i) hq
    rw [hm] at this
    cases hq2 : M i with
    | none => rfl
    | some v => rw [hq2] at this; cases this
theorem TIn.nodeset (h : TIn w tb nb cap P E V M) {i b : Nat} {nd : Nd} {v : Value} {l : Int} {d : List Int} (hm : M i = some nd) (hp : P i = some b)
    (hnode : w'.heap[b]? = some (.cells #[.int .i64 i, .map (E i), v, .int .i64 l] 67 (0, 0))) (hown : w'.ownsRow 0 5 1 v d.length (u8s d))
    (hvin : ∀ j c, v.ownBlock = some c → (V j).ownBlock = some c → j = i) (hfr : Fr (fun x => x = b ∨ (V i).ownBlock = some x) w w') : TIn w' tb nb cap P E (updV' V i v) (setN M i l d) := by
  obtain ⟨cs, hr, hz, hcs⟩ := h.row
  have hb := h.node i b nd hp hm
  have noV : ∀ {x : Nat} {c : Array Value} {t : TypeId} {z : Nat × Nat}, w.heap[x]? = some (.cells c t z) → t ≠ 5 → (V i).ownBlock ≠ some x := fun {x c t z} hx ht => own_off (h.data i nd hm) hx ht
  have oc : ∀ {x : Nat} {c : Array Value} {t : TypeId} {z : Nat × Nat}, w.heap[x]? = some (.cells c t z) → x ≠ b → t ≠ 5 → w'.heap[x]? = some (.cells c t z) := fun hx hn ht => (hfr.block _ (blk_lt hx) (fun e => e.elim hn (noV hx ht))).trans hx
  have hne : ∀ {x : Nat} {c : Array Value} {t : TypeId} {z : Nat × Nat}, w.heap[x]? = some (.cells c t z) → t ≠ 67 → x ≠ b := fun hx ht e => by rw [e, hb] at hx; injection hx with hx; injection hx with _ hx _; exact ht hx.symm
  refine ⟨oc h.top (hne h.top (by decide)) (by decide), ⟨cs, oc hr (hne hr (by decide)) (by decide), hz, hcs⟩, fun x => by rw [some_setN]; exact h.dom x, fun x b' nd' hp' hm' => ?_, fun x nd' hm' => ?_, fun x nd' hm' => ?_, h.pin, h.ein, fun x y c h1 h2 => ?_, fun x hx => ?_, setN_ok h.ok, h.capB⟩
  · by_cases e : x = i
    · rw [e] at hp' hm' ⊢
      rw [setN_i hm] at hm'
      injection hm' with hm'
      rw [hp] at hp'
      injection hp' with hp'
      subst hm' hp'
      unfold updV'
      rw [if_pos rfl]
      exact hnode
    · rw [setN_o e] at hm'
      unfold updV'
      rw [if_neg e]
      exact oc (h.node x b' nd' hp' hm') (fun e' => e (h.pin x i b (by rw [hp', e']) hp)) (by decide)
  · by_cases e : x = i
    · rw [e] at hm' ⊢
      rw [setN_i hm] at hm'
      injection hm' with hm'
      subst hm'
      unfold updV'
      rw [if_pos rfl]
      exact hown
    · rw [setN_o e] at hm'
      unfold updV'
      rw [if_neg e]
      refine own_frame (h.data x nd' hm') hfr fun g hg => ?_
      rintro (e' | e')
      · rcases (h.data x nd' hm').2 with hh | ⟨g2, cap', cur, e2, h1, hgg, hr'⟩
        · rw [hh.1] at hg; cases hg
        · rw [e2] at hg
          injection hg with hg
          have hg : g2 = g := hg
          rw [hg, e', hb] at hgg
          injection hgg with hgg
          injection hgg with _ hgg _
          exact absurd hgg (by decide)
      · exact e (h.vin x i g hg e')
  · have key : ∀ {nd0 : Nd}, M x = some nd0 → match nd0.ents with
        | none => E x = none
        | some f => ∃ eb, E x = some eb ∧ MapIs Value.string w' eb (entF P f) := fun {nd0} h0 => by
      have := h.ents x nd0 h0
      cases hne' : nd0.ents with
      | none => rw [hne'] at this; exact this
      | some g =>
        rw [hne'] at this
        obtain ⟨eb, he, hM⟩ := this
        refine ⟨eb, he, hM.fr hfr ?_⟩
        obtain ⟨es, c, hM0⟩ := h.elt he
        rintro (e' | e')
        · rw [e', hb] at hM0; injection hM0 with hM0; cases hM0
        · exact own_off_map (h.data i nd hm) hM0 e'
    by_cases e : x = i
    · rw [e] at hm'
      rw [setN_i hm] at hm'
      injection hm' with hm'
      subst hm'
      have := key (nd0 := nd) (by rw [e]; exact hm)
      exact this
    · rw [setN_o e] at hm'
      exact key hm'
  · unfold updV' at h1 h2
    by_cases e1 : x = i
    · by_cases e2 : y = i
      · rw [e1, e2]
      · rw [if_pos e1] at h1
        rw [if_neg e2] at h2
        rw [e1]; exact (hvin y c h1 h2).symm
    · by_cases e2 : y = i
      · rw [if_neg e1] at h1
        rw [if_pos e2] at h2
        rw [e2]; exact hvin x c h2 h1
      · rw [if_neg e1] at h1
        rw [if_neg e2] at h2
        exact h.vin x y c h1 h2
  · have h0 : M x = none := by
      have := some_setN (M := M) (i := i) (x := x) (l := l) (d := d)
      rw [hx] at this
      cases hq2 : M x with
      | none => rfl
      | some v => rw [hq2] at this; cases this
    unfold updV'
    rw [if_neg (fun e => by rw [e, hm] at h0; cases h0)]
    exact h.eno x h0
theorem TIn.kill (h : TIn w tb nb cap P E V M) {i : Nat} {nd : Nd} (hm : M i = some nd) (hi : i ≠ 2) (hno : ∀ p s, p ≠ i → entN M p s ≠ some i)
    (hrow : ∃ cs', w'.heap[nb]? = some (.cells cs' 64 (0, 0)) ∧ cs'.size = cap ∧ ∀ j, j < cap → cs'[j]? = some (nptr (updO P i none j))) (hfr : Fr (fun x => x = nb) w w') :
    TIn w' tb nb cap (updO P i none) (updO E i none) (updV' V i (.slice none 0 0)) (killM M i) := by
  obtain ⟨cs, hr, hz, hcs⟩ := h.row
  have oc : ∀ {x : Nat} {c : Array Value} {t : TypeId} {z : Nat × Nat}, w.heap[x]? = some (.cells c t z) → t ≠ 64 → w'.heap[x]? = some (.cells c t z) := fun hx ht => (hfr.block _ (blk_lt hx) (fun e => by
    rw [e, hr] at hx; injection hx with hx; injection hx with _ hx _; exact ht hx.symm)).trans hx
  have mo : ∀ {x : Nat} {nd' : Nd}, killM M i x = some nd' → x ≠ i ∧ M x = some nd' := fun {x nd'} hx => by
    unfold killM at hx
    split at hx
    · cases hx
    · rename_i e; exact ⟨e, hx⟩
  have po : ∀ {Q : Nat → Option Nat} {x b : Nat}, updO Q i none x = some b → x ≠ i ∧ Q x = some b := fun {Q x b} hx => by
    by_cases e : x = i
    · rw [e, updO_self] at hx; cases hx
    · rw [updO_other e] at hx; exact ⟨e, hx⟩
  have vo : ∀ {x b : Nat}, (updV' V i (.slice none 0 0) x).ownBlock = some b → (V x).ownBlock = some b := fun {x b} hx => by
    unfold updV' at hx
    split at hx
    · cases hx
    · exact hx
  refine ⟨oc h.top (by decide), hrow, fun x => ?_, fun x b nd' hp hm' => ?_, fun x nd' hm' => ?_, fun x nd' hm' => ?_, fun x y b h1 h2 => h.pin x y b (po h1).2 (po h2).2, fun x y b h1 h2 => h.ein x y b (po h1).2 (po h2).2, fun x y b h1 h2 => h.vin x y b (vo h1) (vo h2), fun x hx => ?_, kill_ok h.ok hi hno, h.capB⟩
  · by_cases e : x = i
    · rw [e, updO_self]; unfold killM; rw [if_pos rfl]; rfl
    · rw [updO_other e]; unfold killM; rw [if_neg e]; exact h.dom x
  · obtain ⟨e, hm2⟩ := mo hm'
    rw [updO_other e]
    unfold updV'
    rw [if_neg e]
    exact oc (h.node x b nd' (po hp).2 hm2) (by decide)
  · obtain ⟨e, hm2⟩ := mo hm'
    unfold updV'
    rw [if_neg e]
    refine own_frame (h.data x nd' hm2) hfr fun g hg => ?_
    intro e'
    rw [e'] at hg
    exact own_off (h.data x nd' hm2) hr (by decide) hg
  · obtain ⟨e, hm2⟩ := mo hm'
    rw [updO_other e]
    have := h.ents x nd' hm2
    cases hne : nd'.ents with
    | none => rw [hne] at this; exact this
    | some g =>
      rw [hne] at this
      obtain ⟨eb, he, hM⟩ := this
      refine ⟨eb, he, ?_⟩
      have hef : entF (updO P i none) g = entF P g := by
        funext s
        unfold entF
        cases hgs : g s with
        | none => rfl
        | some j =>
          have hj : j ≠ i := fun e' => hno x s e (by rw [entN_of hm2, hne, ← e']; exact hgs)
          show some (nptr (updO P i none j)) = some (nptr (P j))
          rw [updO_other hj]
      rw [hef]
      obtain ⟨es, c, hM0⟩ := h.elt he
      exact hM.fr hfr fun e' => by rw [e', hr] at hM0; injection hM0 with hM0; cases hM0
  · by_cases e : x = i
    · rw [e, updO_self]; unfold updV'; rw [if_pos rfl]; exact ⟨rfl, rfl⟩
    · rw [updO_other e]
      unfold updV'
      rw [if_neg e]
      unfold killM at hx
      rw [if_neg e] at hx
      exact h.eno x hx
end
end Go.Proofs.Ytoofcnehoffllaa
