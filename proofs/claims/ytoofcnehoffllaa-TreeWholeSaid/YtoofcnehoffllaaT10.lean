/- A node more in a tree: its memory. -/
import Derived.Test.YtoofcnehoffllaaT9
namespace Go.Proofs.Ytoofcnehoffllaa
open Go.RowKit

section
variable {w w' : World} {tb nb cap : Nat} {P E : Nat → Option Nat} {V : Nat → Value} {M : TM}
theorem TIn.elt (h : TIn w tb nb cap P E V M) {i e : Nat} (he : E i = some e) : ∃ es c, w.heap[e]? = some (.map es c) := by
  cases hm : M i with
  | none => rw [(h.eno i hm).1] at he; cases he
  | some nd =>
    have := h.ents i nd hm
    cases hn : nd.ents with
    | none => rw [hn] at this; rw [this] at he; cases he
    | some f =>
      rw [hn] at this
      obtain ⟨eb, he', es, c, hM, _⟩ := this
      rw [he'] at he
      injection he with he
      subst he
      exact ⟨es, c, hM⟩
theorem TIn.add (h : TIn w tb nb cap P E V M) {i p pe nbk : Nat} {q : Nd} {f : ByteArray → Option Nat} {s : ByteArray} {dir : Bool} {eo : Option Nat}
    (hi : 2 ≤ i ∧ i < cap) (hn : M i = none) (hq : M p = some q) (hf : q.ents = some f) (hpe : E p = some pe)
    (hrow : ∃ cs', w'.heap[nb]? = some (.cells cs' 64 (0, 0)) ∧ cs'.size = cap ∧ ∀ j, j < cap → cs'[j]? = some (nptr (updO P i (some nbk) j)))
    (hmap : MapIs Value.string w' pe (putK (entF P f) s (nptr (some nbk))))
    (hnode : w'.heap[nbk]? = some (.cells #[.int .i64 i, .map eo, .slice none 0 0, .int .i64 1] 67 (0, 0)))
    (heo : (dir = true ∧ ∃ e, eo = some e ∧ w.heap.size ≤ e ∧ w'.heap[e]? = some (.map #[] 0)) ∨ (dir = false ∧ eo = none))
    (hnb : w.heap.size ≤ nbk) (hfr : ∀ b, b < w.heap.size → b ≠ nb → b ≠ pe → w'.heap[b]? = w.heap[b]?) :
    TIn w' tb nb cap (updO P i (some nbk)) (updO E i eo) V (addM M i (freshNd dir) p s) := by
  have hd : isDir M p = true := by unfold isDir; rw [hq]; show q.ents.isSome = true; rw [hf]; rfl
  have hpi : p ≠ i := fun e => by rw [e, hn] at hq; cases hq
  obtain ⟨cs, hr, hz, hcs⟩ := h.row
  obtain ⟨pes, pec, hpm⟩ := h.elt hpe
  have offr : ∀ {b : Nat} {o : Obj}, w.heap[b]? = some o → (∀ c z, o ≠ .cells c 64 z) → (∀ es c, o ≠ .map es c) → w'.heap[b]? = some o := fun {b o} hb h1 h2 => by
    refine (hfr b (blk_lt hb) (fun e => ?_) (fun e => ?_)).trans hb
    · rw [e, hr] at hb
      injection hb with hb
      exact h1 _ _ hb.symm
    · rw [e, hpm] at hb
      injection hb with hb
      exact h2 _ _ hb.symm
  have hPi : P i = none := by
    have := h.dom i
    rw [hn] at this
    cases hp : P i with
    | none => rfl
    | some b => rw [hp] at this; cases this
  have hlt : ∀ {x b : Nat}, P x = some b → b < w.heap.size := fun {x b} hx => by
    have hs : (M x).isSome = true := by rw [← h.dom x, hx]; rfl
    obtain ⟨nd, hm⟩ := Option.isSome_iff_exists.1 hs
    exact blk_lt (h.node x b nd hx hm)
  have hold : ∀ {x b : Nat} {nd : Nd}, P x = some b → M x = some nd → w'.heap[b]? = some (.cells #[.int .i64 x, .map (E x), V x, .int .i64 nd.links] 67 (0, 0)) := fun {x b nd} h1 h2 => offr (h.node x b nd h1 h2) (fun c z e => by injection e with _ e _; cases e) (fun es c e => by cases e)
  have hdat : ∀ {x : Nat} {nd : Nd}, M x = some nd → w'.ownsRow 0 5 1 (V x) nd.data.length (u8s nd.data) := fun {x nd} hm => by
    have h0 := h.data x nd hm
    refine ⟨h0.1, ?_⟩
    rcases h0.2 with hh | ⟨g, cap', cur, e, h1, hg, hr'⟩
    · exact .inl hh
    · exact .inr ⟨g, cap', cur, e, h1, offr hg (fun c z e => by injection e with _ e _; cases e) (fun es c e => by cases e), hr'⟩
  have hin : ∀ {g : ByteArray → Option Nat} {x : Nat} {nd : Nd}, M x = some nd → nd.ents = some g → ∀ t j, g t = some j → j ≠ i := fun {g x nd} hm hg t j ht e => by
    have := h.ok.ent x t j (by unfold entN; rw [hm]; show (match nd.ents with | some f => f t | none => none) = some j; rw [hg]; exact ht)
    rw [e, hn] at this; cases this
  refine ⟨offr h.top (fun c z e => by injection e with _ e _; cases e) (fun es c e => by cases e), hrow, fun x => ?_, fun x b nd h1 h2 => ?_, fun x nd hm => ?_, fun x nd hm => ?_, fun x y b h1 h2 => ?_, fun x y b h1 h2 => ?_, h.vin, fun x hm => ?_, addM_ok h.ok hi hn hd, h.capB⟩
  · by_cases e1 : x = i
    · rw [e1, updO_self, addM_i]; rfl
    · rw [updO_other e1]
      by_cases e2 : x = p
      · rw [e2, addM_p hpi hq, h.dom p, hq]; rfl
      · rw [addM_o e1 e2]; exact h.dom x
  · by_cases e1 : x = i
    · rw [e1] at h1 h2 ⊢
      rw [updO_self] at h1
      injection h1 with h1
      rw [addM_i] at h2
      injection h2 with h2
      rw [← h1, ← h2, updO_self, (h.eno i hn).2]
      exact hnode
    · rw [updO_other e1] at h1 ⊢
      by_cases e2 : x = p
      · rw [e2] at h1 h2 ⊢
        rw [addM_p hpi hq] at h2
        injection h2 with h2
        rw [← h2]
        have hh := hold (nd := q) h1 hq
        exact hh
      · rw [addM_o e1 e2] at h2
        exact hold h1 h2
  · by_cases e1 : x = i
    · rw [e1] at hm ⊢
      rw [addM_i] at hm
      injection hm with hm
      rw [← hm, (h.eno i hn).2]
      exact ⟨rfl, .inl ⟨rfl, rfl⟩⟩
    · by_cases e2 : x = p
      · rw [e2] at hm ⊢
        rw [addM_p hpi hq] at hm
        injection hm with hm
        rw [← hm]
        have hh := hdat (nd := q) hq
        exact hh
      · rw [addM_o e1 e2] at hm
        exact hdat hm
  · by_cases e1 : x = i
    · rw [e1] at hm ⊢
      rw [addM_i] at hm
      injection hm with hm
      subst hm
      rw [updO_self]
      rcases heo with ⟨hdir, e, he, _, hmp⟩ | ⟨hdir, he⟩
      · subst hdir he
        exact ⟨e, rfl, by
          have := MapIs.new Value.string w' e hmp
          exact this⟩
      · subst hdir he
        rfl
    · rw [updO_other e1]
      by_cases e2 : x = p
      · rw [e2] at hm ⊢
        rw [addM_p hpi hq] at hm
        injection hm with hm
        subst hm
        show (match q.ents.map fun f => updE f s (some i) with
          | none => E p = none
          | some f => ∃ eb, E p = some eb ∧ MapIs Value.string w' eb (entF (updO P i (some nbk)) f))
        rw [hf]
        exact ⟨pe, hpe, by rw [entF_put (hin hq hf)]; exact hmap⟩
      · rw [addM_o e1 e2] at hm
        have := h.ents x nd hm
        cases hne : nd.ents with
        | none => rw [hne] at this; exact this
        | some g =>
          rw [hne] at this
          obtain ⟨eb, he, hM⟩ := this
          refine ⟨eb, he, ?_⟩
          rw [entF_upd (hin hm hne)]
          obtain ⟨es, c, hM0⟩ := h.elt he
          refine hM.same (hfr eb (blk_lt hM0) (fun e => ?_) fun e => e2 (h.ein x p pe (by rw [he, e]) hpe))
          rw [e, hr] at hM0
          injection hM0 with hM0
          cases hM0
  · by_cases e1 : x = i
    · by_cases e2 : y = i
      · rw [e1, e2]
      · rw [e1, updO_self] at h1
        rw [updO_other e2] at h2
        injection h1 with h1
        have := hlt h2
        omega
    · by_cases e2 : y = i
      · rw [updO_other e1] at h1
        rw [e2, updO_self] at h2
        injection h2 with h2
        have := hlt h1
        omega
      · rw [updO_other e1] at h1
        rw [updO_other e2] at h2
        exact h.pin x y b h1 h2
  · have heq : ∀ b, eo = some b → w.heap.size ≤ b := fun b hb => by
      rcases heo with ⟨_, e, he, hle, _⟩ | ⟨_, he⟩
      · rw [he] at hb; injection hb with hb; omega
      · rw [he] at hb; cases hb
    by_cases e1 : x = i
    · by_cases e2 : y = i
      · rw [e1, e2]
      · rw [e1, updO_self] at h1
        rw [updO_other e2] at h2
        obtain ⟨es, c, hM0⟩ := h.elt h2
        have := heq b h1
        have := blk_lt hM0
        omega
    · by_cases e2 : y = i
      · rw [updO_other e1] at h1
        rw [e2, updO_self] at h2
        obtain ⟨es, c, hM0⟩ := h.elt h1
        have := heq b h2
        have := blk_lt hM0
        omega
      · rw [updO_other e1] at h1
        rw [updO_other e2] at h2
        exact h.ein x y b h1 h2
  · have e1 : x ≠ i := fun e => by rw [e, addM_i] at hm; cases hm
    have e2 : x ≠ p := fun e => by rw [e, addM_p hpi hq] at hm; cases hm
    rw [addM_o e1 e2] at hm
    rw [updO_other e1]
    exact h.eno x hm
end
end Go.Proofs.Ytoofcnehoffllaa
