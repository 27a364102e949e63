/- What is always so of a tree stays so: behind make, Link, gone, Write, Truncate. -/
import Derived.Test.YtoofcnehoffllaaGreatT23
import Derived.Test.YtoofcnehoffllaaGreatT21
namespace Go.Proofs.YtoofcnehoffllaaGreat
open Go.RowKit

/-- What is always so of a tree. -/
def Good (M : TM) (cap : Nat) : Prop := TG M cap ∧ TS M
theorem goE_sub {e : EM} {i : Nat} (hi : ∀ t, e i t = none) : ∀ (l : List ByteArray) (j : Nat), goE e i l = some j → l = [] ∧ j = i
  | [], j, h => by injection h with h; exact ⟨rfl, h.symm⟩
  | s :: l, j, h => by
    have h : ((e i s).bind fun y => goE e y l) = some j := h
    rw [hi s] at h; cases h
/-- Paths behind one more name of a node that has no entries. -/
theorem goE_put {e : EM} {p i : Nat} {s : ByteArray} (hi : ∀ t, e i t = none) (hip : i ≠ p) : ∀ (n : Nat) (l : List ByteArray) (j : Nat), l.length ≤ n → i ≠ 2 → goE (putE e p s (some i)) 2 l = some j → goE e 2 l = some j ∨ (j = i ∧ ∃ r, l = r ++ [s] ∧ goE e 2 r = some p) := by
  intro n
  induction n with
  | zero =>
    intro l j hl _ h
    obtain rfl : l = [] := List.eq_nil_of_length_eq_zero (by omega)
    exact .inl h
  | succ n ih =>
    intro l j hl h2 h
    rcases snoc_cases l with rfl | ⟨r, t, rfl⟩
    · exact .inl h
    · obtain ⟨q, hq, hqt⟩ := goE_snoc.1 h
      have hrl : r.length ≤ n := by rw [List.length_append] at hl; simp at hl; omega
      have hr := ih r q hrl h2 hq
      by_cases hc : q = p ∧ t = s
      · obtain ⟨rfl, rfl⟩ := hc
        rw [putE_self] at hqt
        injection hqt with hqt
        rcases hr with hr | ⟨e1, _⟩
        · exact .inr ⟨hqt.symm, r, rfl, hr⟩
        · exact absurd e1.symm hip
      · rw [putE_other hc] at hqt
        rcases hr with hr | ⟨e1, _⟩
        · exact .inl (goE_snoc.2 ⟨q, hr, hqt⟩)
        · rw [e1, hi] at hqt; cases hqt
section
variable {M M' : TM} {cap : Nat}
/-- One name more of a node without entries: paths are told still. -/
theorem TS.put (h : TS M) (hG : TG M cap) {p i : Nat} {s : ByteArray} {rp : List ByteArray} (hp : isDir M p = true) (hrp : goE (entN M) 2 rp = some p) (hi : ∀ t, entN M i t = none) (hi2 : i ≠ 2) (he : entN M' = putE (entN M) p s (some i))
    (hd : ∀ x, x ≠ i → isDir M' x = isDir M x) (hn : nameE s.data.toList = 0) (hl : longN (rp ++ [s]) + dirB M' i ≤ 255) (hdi : ∀ l, goE (entN M) 2 l = some i → dirB M' i = dirB M i) (hip : i ≠ p) : TS M' := by
  refine ⟨fun q t j ht => ?_, fun l j hl' hg => ?_⟩
  · rw [he] at ht
    unfold putE at ht
    split at ht
    · rename_i hc
      rw [hc.2]; exact hn
    · exact h.nam q t j ht
  · rw [he] at hg
    rcases goE_put hi hip l.length l j (Nat.le_refl _) hi2 hg with hg2 | ⟨rfl, r, rfl, hr⟩
    · by_cases hji : j = i
      · subst hji
        rw [hdi l hg2]
        exact h.short l j hl' hg2
      · have : dirB M' j = dirB M j := by unfold dirB; rw [hd j hji]
        rw [this]
        exact h.short l j hl' hg2
    · rw [hG.uniq r.length r rp p (Nat.le_refl _) hp hr hrp]
      exact hl
/-- A path that may be made: its parent. -/
theorem fresh_plain {s : ByteArray} {dir : Bool} (hc : freshC M s dir = 0) : parE s = 0 ∧ ∃ p, leadN M 2 (parN s) = .inl p ∧ isDir M p = true ∧ entN M p (parL s) = none ∧ (dir = true → longN (parN s ++ [parL s]) < 255) ∧ (splitD s = true → dir = true) := by
  have hpc : placeC M s = 0 := by
    unfold freshC at hc
    by_cases q : placeC M s = 0
    · exact q
    · rw [if_pos q] at hc; exact hc
  unfold freshC at hc
  rw [if_neg (by rw [hpc]; simp)] at hc
  unfold placeC at hpc
  have hpe : parE s = 0 := by
    by_cases q : parE s = 0
    · exact q
    · rw [if_pos q] at hpc; exact hpc
  rw [if_neg (by rw [hpe]; simp)] at hpc
  refine ⟨hpe, ?_⟩
  cases hq : leadN M 2 (parN s) with
  | inr c =>
    rw [hq] at hpc
    exact absurd hpc (lead_code hq)
  | inl p =>
    rw [hq] at hpc hc
    have hpc : (if isDir M p = true then (0 : Int) else 20) = 0 := hpc
    have hpd : isDir M p = true := by
      cases hd : isDir M p with
      | true => rfl
      | false => rw [hd] at hpc; cases hpc
    have hc : (if (entN M p (parL s)).isSome then (17 : Int) else if splitD s && !dir then 21 else if dir && decide (255 ≤ longN (parN s ++ [parL s])) then 36 else 0) = 0 := hc
    refine ⟨p, rfl, hpd, ?_, fun hd => ?_, fun hsd => ?_⟩
    · cases hq2 : entN M p (parL s) with
      | none => rfl
      | some j => rw [hq2] at hc; simp at hc
    · subst hd
      by_cases h255 : 255 ≤ longN (parN s ++ [parL s])
      · exfalso
        cases hq2 : entN M p (parL s) with
        | some j => rw [hq2] at hc; simp at hc
        | none =>
          rw [hq2, decide_eq_true h255] at hc
          simp at hc
      · omega
    · cases dir with
      | true => rfl
      | false =>
        cases hq2 : entN M p (parL s) with
        | some j => rw [hq2] at hc; simp at hc
        | none =>
          rw [hq2, hsd] at hc
          simp at hc
theorem par_names {s : ByteArray} (h : parE s = 0) : NamesOk (parN s ++ [parL s]) ∧ longN (parN s ++ [parL s]) ≤ s.size ∧ s.size ≤ 255 := by
  obtain ⟨h0, hs⟩ := par_split h
  obtain ⟨a, b, c⟩ := slashed_split h0
  rw [hs] at a c
  have := longN_slashed (parN s ++ [parL s])
  exact ⟨c, by omega, b⟩
theorem least_spec : ∀ (k i j : Nat), leastN M cap k i = some j → i ≤ j ∧ j < cap ∧ M j = none
  | 0, i, j, h => by cases h
  | k + 1, i, j, h => by
    have h : (if i < cap then (if (M i).isNone then some i else leastN M cap k (i + 1)) else none) = some j := h
    split at h
    · split at h
      · rename_i h1 h2
        injection h with h
        subst h
        exact ⟨Nat.le_refl _, h1, by cases hq : M i with | none => rfl | some v => rw [hq] at h2; cases h2⟩
      · have := least_spec k (i + 1) j h
        exact ⟨by omega, this.2⟩
    · cases h
theorem ent_none {i : Nat} (hm : M i = none) (t : ByteArray) : entN M i t = none := by unfold entN; rw [hm]
theorem ent_file {i : Nat} (hd : isDir M i = false) (t : ByteArray) : entN M i t = none := by
  cases hq : entN M i t with
  | none => rfl
  | some j => rw [ent_dir hq] at hd; cases hd
theorem Good.make (h : Good M cap) (s : ByteArray) (dir : Bool) : Good (makeN M cap s dir).2.2 cap := by
  unfold makeN
  by_cases hc : freshC M s dir = 0
  · rw [if_neg (by rw [hc]; simp)]
    obtain ⟨hpe, p, hl, hp, hn, hlong, _⟩ := fresh_plain hc
    rw [hl]
    dsimp only
    cases hle : leastN M cap cap 2 with
    | none => exact h
    | some i =>
      obtain ⟨h2, hic, hmi⟩ := least_spec cap 2 i hle
      have hG := h.1.add (dir := dir) (s := parL s) ⟨h2, hic⟩ hmi hp hn
      refine ⟨hG, ?_⟩
      have hi2 : i ≠ 2 := fun e => by have := h.1.ok.root_there; rw [← e, hmi] at this; cases this
      have hip : i ≠ p := fun e => by
        unfold isDir at hp
        rw [← e, hmi] at hp; cases hp
      obtain ⟨hnm, hln, hsz⟩ := par_names hpe
      refine h.2.put h.1 (rp := parN s) hp ((lead_goE _ _ _).1 hl) (ent_none hmi) hi2 (ent_add hp hmi) (fun x hx => (add_same hx).2.2) (hnm _ (by simp)) ?_ (fun l hg => ?_) hip
      · unfold dirB
        rw [isDir_of addM_i]
        unfold freshNd Nd.dir
        cases dir with
        | true => have := hlong rfl; simp; omega
        | false => simp; omega
      · exfalso
        rcases snoc_cases l with rfl | ⟨r, t, rfl⟩
        · injection hg with hg; exact hi2 hg.symm
        · obtain ⟨q, _, hq⟩ := goE_snoc.1 hg
          have := h.1.ok.ent q t i hq
          rw [hmi] at this; cases this
  · rw [if_pos hc]
    exact h
theorem Good.link (h : Good M cap) (old s : ByteArray) : Good (linkN M old s).2 cap := by
  unfold linkN
  by_cases h1 : splitE old = 0
  · rw [if_neg (by rw [h1]; simp)]
    by_cases h2 : parE s = 0
    · rw [if_neg (by rw [h2]; simp)]
      cases hq : lookN M old with
      | inr c => exact h
      | inl i =>
        show Good (if isDir M i then (1, M) else if freshC M s false ≠ 0 then (freshC M s false, M) else if lkN M i = 100 then (31, M) else match leadN M 2 (parN s) with | .inr _ => (0, M) | .inl p => (0, linkM M p (parL s) i)).2 cap
        cases hd : isDir M i with
        | true => exact h
        | false =>
          show Good (if freshC M s false ≠ 0 then (freshC M s false, M) else if lkN M i = 100 then (31, M) else match leadN M 2 (parN s) with | .inr _ => (0, M) | .inl p => (0, linkM M p (parL s) i)).2 cap
          by_cases hc : freshC M s false = 0
          · rw [if_neg (by rw [hc]; simp)]
            by_cases hk : lkN M i = 100
            · rw [if_pos hk]; exact h
            · rw [if_neg hk]
              obtain ⟨hpe, p, hl, hp, hn, _, _⟩ := fresh_plain hc
              rw [hl]
              have hi : (M i).isSome = true := by
                have := hq
                unfold lookN at this
                rw [if_neg (by rw [h1]; simp)] at this
                cases hq2 : leadN M 2 (splitN old) with
                | inr e => rw [hq2] at this; cases this
                | inl j =>
                  rw [hq2] at this
                  have this : (if splitD old && !isDir M j then (.inr 20 : Nat ⊕ Int) else .inl j) = .inl i := this
                  split at this
                  · cases this
                  · injection this with this
                    subst this
                    exact lead_there h.1.ok _ 2 j h.1.ok.root_there hq2
              have hip : i ≠ p := fun e => by rw [e, hp] at hd; cases hd
              have hi2 : i ≠ 2 := fun e => by have := h.1.ok.root; rw [← e, hd] at this; cases this
              obtain ⟨hnm, hln, hsz⟩ := par_names hpe
              have hpd : isDir (setN M i (lkN M i + 1) (datN M i)) p = true := isDir_setN.trans hp
              have hee : entN (setN M i (lkN M i + 1) (datN M i)) = entN M := by funext x t; exact entN_setN
              obtain ⟨ndp, fp, hmp, hfp⟩ := isDir_there hpd
              have hdi : ∀ x, isDir (linkM M p (parL s) i) x = isDir M x := fun x => by unfold linkM; rw [isDir_setE hmp hfp, isDir_setN]
              refine ⟨h.1.link hi hd hp hn hk, h.2.put h.1 (rp := parN s) hp ((lead_goE _ _ _).1 hl) (ent_file hd) hi2 ?_ (fun x _ => hdi x) (hnm (parL s) (by simp)) ?_ (fun l hg => by unfold dirB; rw [hdi]) hip⟩
              · unfold linkM
                have := ent_setE (s := parL s) (o := some i) hpd
                rw [hee] at this
                exact this
              · unfold dirB
                rw [hdi, hd]
                simp; omega
          · rw [if_pos hc]; exact h
    · rw [if_pos h2]; exact h
  · rw [if_pos h1]; exact h
/-- Fewer names: paths are told still. -/
theorem TS.less (h : TS M) (he : ∀ p s j, entN M' p s = some j → entN M p s = some j) (hd : ∀ l j, goE (entN M') 2 l = some j → isDir M' j = isDir M j) : TS M' :=
  ⟨fun p s j hs => h.nam p s j (he p s j hs), fun l j hl hg => by
    have := h.short l j hl (goE_mono he l 2 j hg)
    unfold dirB at this ⊢
    rw [hd l j hg]; exact this⟩
theorem drop_ent {i p : Nat} {s : ByteArray} {nd : Nd} (hm : M i = some nd) (hs : entN M p s = some i) (hi : ∀ t, entN M i t = none) : entN (dropT M p s i) = putE (entN M) p s none ∧ ∀ x, (dropT M p s i x).isSome = true → isDir (dropT M p s i) x = isDir M x := by
  have hpd := ent_dir hs
  obtain ⟨ndp, fp, hmp, hfp⟩ := isDir_there hpd
  have hip : i ≠ p := fun e => by have := hi s; rw [e, hs] at this; cases this
  have hdr : dropT M p s i = dropM M p (entN M p) s i nd := by unfold dropT; rw [hm]
  have he1 : entN (setN (setE M p (updE (entN M p) s none)) i (nd.links - 1) nd.data) = putE (entN M) p s none := by
    rw [← ent_setE (s := s) (o := none) hpd]
    funext x t; exact entN_setN
  have hd1 : ∀ x, isDir (setN (setE M p (updE (entN M p) s none)) i (nd.links - 1) nd.data) x = isDir M x := fun x => by rw [isDir_setN, isDir_setE hmp hfp]
  rw [hdr]
  unfold dropM
  by_cases h0 : nd.links - 1 = 0
  · rw [if_pos h0]
    refine ⟨?_, fun x hx => ?_⟩
    · funext x t
      rw [entN_kill, he1]
      by_cases e : x = i
      · rw [if_pos e, e, putE_other (fun e' => hip e'.1), hi t]
      · rw [if_neg e]
    · have hxi : x ≠ i := fun e => by rw [e] at hx; unfold killM at hx; rw [if_pos rfl] at hx; cases hx
      rw [← hd1 x]
      unfold isDir killM
      rw [if_neg hxi]
  · rw [if_neg h0]
    exact ⟨he1, fun x _ => hd1 x⟩
theorem Good.drop (h : Good M cap) {i p : Nat} {s : ByteArray} (hs : entN M p s = some i) (hi : ∀ t, entN M i t = none) : Good (dropT M p s i) cap := by
  have hG := h.1.drop hs hi
  obtain ⟨nd, hm⟩ := Option.isSome_iff_exists.1 (h.1.ok.ent p s i hs)
  obtain ⟨he, hd⟩ := drop_ent hm hs hi
  refine ⟨hG, h.2.less (fun q t j ht => ?_) fun l j hg => hd j ?_⟩
  · rw [he] at ht
    unfold putE at ht
    split at ht
    · cases ht
    · exact ht
  · rcases snoc_cases l with rfl | ⟨r, t, rfl⟩
    · injection hg with hg
      subst hg
      exact hG.ok.root_there
    · obtain ⟨q, _, hq⟩ := goE_snoc.1 hg
      exact hG.ok.ent q t j hq
theorem Good.gone (h : Good M cap) (s : ByteArray) (dir : Bool) : Good (goneN M s dir).2 cap := by
  unfold goneN
  by_cases h1 : parE s = 0
  · rw [if_neg (by rw [h1]; simp)]
    cases hq : lookN M s with
    | inr c => exact h
    | inl i =>
      show Good (if wrongN M i dir ≠ 0 then (wrongN M i dir, M) else match leadN M 2 (parN s) with | .inr _ => (0, M) | .inl p => (0, dropT M p (parL s) i)).2 cap
      by_cases hw : wrongN M i dir = 0
      · rw [if_neg (by rw [hw]; simp)]
        obtain ⟨p, hl, he⟩ := look_par h1 hq
        rw [hl]
        exact h.drop he (wrong_none hw)
      · rw [if_pos hw]; exact h
  · rw [if_pos h1]; exact h
/-- Other bytes of a file. -/
theorem Good.data (h : Good M cap) {i : Nat} (hi : (M i).isSome = true) (hd : isDir M i = false) {d : List Int} (hl : d.length ≤ 38400) (hb : ∀ x ∈ d, 0 ≤ x ∧ x < 256) : Good (setN M i (lkN M i) d) cap := by
  have hee : entN (setN M i (lkN M i) d) = entN M := by funext x t; exact entN_setN
  have hlk : ∀ x, lkN (setN M i (lkN M i) d) x = lkN M x := fun x => by
    unfold lkN setN
    by_cases e : x = i
    · rw [if_pos e, e]
      obtain ⟨nd, hm⟩ := Option.isSome_iff_exists.1 hi
      rw [hm]; rfl
    · rw [if_neg e]
  have hdt : ∀ x, datN (setN M i (lkN M i) d) x = if x = i then d else datN M x := fun x => by
    unfold datN setN
    by_cases e : x = i
    · rw [if_pos e, if_pos e]
      obtain ⟨nd, hm⟩ := Option.isSome_iff_exists.1 hi
      rw [hm]; rfl
    · rw [if_neg e, if_neg e]
  have hdi : ∀ x, isDir (setN M i (lkN M i) d) x = isDir M x := fun x => isDir_setN
  obtain ⟨L, hL, hll⟩ := h.1.nms
  refine ⟨⟨setN_ok h.1.ok, fun p s => by rw [hee]; exact h.1.noroot p s, ⟨L, by rw [hee]; exact hL, fun x hx h2 => by rw [some_setN] at hx; rw [hee, hlk]; exact hll x hx h2⟩, fun x hx => ?_, fun x => ?_, fun x hx => ?_⟩, ⟨fun p s j hs => ?_, fun l j hl' hg => ?_⟩⟩
  · rw [some_setN] at hx
    rw [hlk, hdi, hdt]
    obtain ⟨a, b, c⟩ := h.1.lk x hx
    refine ⟨a, b, fun hd' => ?_⟩
    rw [if_neg (fun e => by rw [e, hd] at hd'; cases hd')]
    exact c hd'
  · rw [hdt]
    by_cases e : x = i
    · rw [if_pos e]; exact ⟨hl, hb⟩
    · rw [if_neg e]; exact h.1.byt x
  · rw [some_setN] at hx
    rw [hee]; exact h.1.reach x hx
  · rw [hee] at hs; exact h.2.nam p s j hs
  · rw [hee] at hg
    unfold dirB
    rw [hdi]
    exact h.2.short l j hl' hg
end
end Go.Proofs.YtoofcnehoffllaaGreat
