/- A name moved, plainly: what is always so stays so. -/
/- Rename, plainly. -/
/- Walk of tree's drop once more: which nodes stay where they are. -/
/- The memory of a move: an entry is deleted, another one is put. -/
/- Walk of Rename (printed by tools/gen47.py). -/
import Derived.Test.YtoofcnehoffllaaT31
import Derived.Test.YtoofcnehoffllaaT24
import Derived.LaidEqlPtr
namespace Go.Proofs.Ytoofcnehoffllaa
open Go.RowKit

/-- The name last of f is gone, n has the name en of p. -/
def moveM (M : TM) (f : Nat) (last : ByteArray) (p : Nat) (en : ByteArray) (n : Nat) : TM :=
  setE (setE M f (updE (entN M f) last none)) p (updE (entN (setE M f (updE (entN M f) last none)) p) en (some n))
theorem goE_del {e : EM} {f n : Nat} {last : ByteArray} (hs : e f last = some n) : ∀ (l : List ByteArray) (i j : Nat), goE e i l = some j → goE (putE e f last none) i l = some j ∨ ∃ l1 l2, l = l1 ++ [last] ++ l2 ∧ goE e i l1 = some f ∧ goE e n l2 = some j
  | [], i, j, h => .inl h
  | s :: l, i, j, h => by
    rw [goE_cons] at h
    by_cases hc : i = f ∧ s = last
    · obtain ⟨rfl, rfl⟩ := hc
      rw [hs] at h
      exact .inr ⟨[], l, rfl, rfl, h⟩
    · cases he : e i s with
      | none => rw [he] at h; cases h
      | some k =>
        rw [he] at h
        rcases goE_del hs l k j h with h1 | ⟨l1, l2, rfl, h1, h2⟩
        · left
          rw [goE_cons, putE_other hc, he]
          exact h1
        · right
          exact ⟨s :: l1, l2, rfl, by rw [goE_cons, he]; exact h1, h2⟩
theorem goE_add {e : EM} {p n : Nat} {en : ByteArray} (hnp : ∀ l, goE e n l ≠ some p) : ∀ (m : Nat) (l : List ByteArray) (j : Nat), l.length ≤ m → goE (putE e p en (some n)) 2 l = some j → goE e 2 l = some j ∨ ∃ l1 l2, l = l1 ++ [en] ++ l2 ∧ goE e 2 l1 = some p ∧ goE e n l2 = some j := by
  intro m
  induction m with
  | zero =>
    intro l j hl h
    obtain rfl : l = [] := List.eq_nil_of_length_eq_zero (by omega)
    exact .inl h
  | succ m ih =>
    intro l j hl h
    rcases snoc_cases l with rfl | ⟨r, t, rfl⟩
    · exact .inl h
    · obtain ⟨q, hq, hqt⟩ := goE_snoc.1 h
      have hrl : r.length ≤ m := by rw [List.length_append] at hl; simp at hl; omega
      rcases ih r q hrl hq with hr | ⟨l1, l2, rfl, h1, h2⟩
      · by_cases hc : q = p ∧ t = en
        · obtain ⟨rfl, rfl⟩ := hc
          rw [putE_self] at hqt
          injection hqt with hqt
          subst hqt
          exact .inr ⟨r, [], by simp, hr, rfl⟩
        · rw [putE_other hc] at hqt
          exact .inl (goE_snoc.2 ⟨q, hr, hqt⟩)
      · by_cases hc : q = p ∧ t = en
        · obtain ⟨rfl, rfl⟩ := hc
          exact absurd h2 (hnp l2)
        · rw [putE_other hc] at hqt
          exact .inr ⟨l1, l2 ++ [t], by simp, h1, goE_snoc.2 ⟨q, h2, hqt⟩⟩
section
variable {M : TM} {cap : Nat}
theorem move_same {f p n : Nat} {last en : ByteArray} (hf : isDir M f = true) (hp : isDir M p = true) : entN (moveM M f last p en n) = putE (putE (entN M) f last none) p en (some n) ∧ (∀ x, isDir (moveM M f last p en n) x = isDir M x) ∧ (∀ x, (moveM M f last p en n x).isSome = (M x).isSome) ∧ (∀ x, lkN (moveM M f last p en n) x = lkN M x) ∧ ∀ x, datN (moveM M f last p en n) x = datN M x := by
  obtain ⟨ndf, ff, hmf, hff⟩ := isDir_there hf
  have hd1 : ∀ x, isDir (setE M f (updE (entN M f) last none)) x = isDir M x := fun x => isDir_setE hmf hff
  have hp1 : isDir (setE M f (updE (entN M f) last none)) p = true := (hd1 p).trans hp
  obtain ⟨ndp, fp, hmp, hfp⟩ := isDir_there hp1
  refine ⟨?_, fun x => ?_, fun x => ?_, fun x => ?_, fun x => ?_⟩
  · unfold moveM
    rw [ent_setE hp1, ent_setE hf]
  · unfold moveM
    rw [isDir_setE hmp hfp, hd1]
  · unfold moveM
    rw [some_setE hmp, some_setE hmf]
  · unfold moveM
    rw [setE_same.1, setE_same.1]
  · unfold moveM
    rw [setE_same.2, setE_same.2]
theorem Good.move (h : Good M cap) {f p n : Nat} {last en : ByteArray} {rp : List ByteArray} (hs : entN M f last = some n) (hp : isDir M p = true) (hn : entN M p en = none) (hnm : nameE en.data.toList = 0) (hrp : goE (entN M) 2 rp = some p) (hno : ∀ l, goE (entN M) n l ≠ some p)
    (hlong : ∀ l j, goE (entN M) n l = some j → longN (rp ++ [en]) + longN l + dirB M j ≤ 255) : Good (moveM M f last p en n) cap := by
  have hf := ent_dir hs
  obtain ⟨he, hd, hsm, hlk, hdt⟩ := move_same (n := n) (last := last) (en := en) hf hp
  have hn2 : n ≠ 2 := fun e => h.1.noroot f last (by rw [hs, e])
  have hns := h.1.ok.ent f last n hs
  obtain ⟨ndf, ff, hmf, hff⟩ := isDir_there hf
  have hp1 : isDir (setE M f (updE (entN M f) last none)) p = true := (isDir_setE hmf hff).trans hp
  obtain ⟨ndp, fp, hmp, hfp⟩ := isDir_there hp1
  have hne : ¬ (p = f ∧ en = last) := fun ⟨e1, e2⟩ => by rw [e1, e2, hs] at hn; cases hn
  have he1 : putE (entN M) f last none p en = none := by rw [putE_other hne]; exact hn
  have hmono : ∀ i s j, putE (entN M) f last none i s = some j → entN M i s = some j := fun i s j hh => by
    unfold putE at hh
    split at hh
    · cases hh
    · exact hh
  obtain ⟨L, hL, hl⟩ := h.1.nms
  obtain ⟨L', hN', hj'⟩ := num_del hL hs
  obtain ⟨hN2, hj2⟩ := num_put hN' n he1
  obtain ⟨lf, hlf⟩ := h.1.reach f (by rw [hmf]; rfl)
  -- n leads not to f
  have hnf : ∀ l, goE (entN M) n l ≠ some f := fun l hg => by
    have hg2 : goE (entN M) 2 (lf ++ [last] ++ l) = some f := by
      rw [goE_append, goE_snoc.2 ⟨f, hlf, hs⟩]
      exact hg
    have := h.1.uniq lf.length lf _ f (Nat.le_refl _) hf hlf hg2
    have h9 := congrArg List.length this
    rw [List.length_append, List.length_append, List.length_singleton] at h9
    omega
  have hdn : ∀ l j, goE (entN M) n l = some j → goE (putE (entN M) f last none) n l = some j := fun l j hg => by
    rcases goE_del hs l n j hg with h1 | ⟨l1, l2, rfl, h1, h2⟩
    · exact h1
    · exact absurd h1 (hnf l1)
  have hdp : goE (putE (entN M) f last none) 2 rp = some p := by
    rcases goE_del hs rp 2 p hrp with h1 | ⟨l1, l2, rfl, h1, h2⟩
    · exact h1
    · exact absurd h2 (hno l2)
  have hmono2 : ∀ i s j, putE (entN M) f last none i s = some j → putE (putE (entN M) f last none) p en (some n) i s = some j := fun i s j hh => by
    rw [putE_other (fun e => by rw [e.1, e.2, he1] at hh; cases hh)]; exact hh
  refine ⟨⟨?_, fun q t ht => ?_, ⟨(p, en) :: L', by rw [he]; exact hN2, fun x hx h2 => ?_⟩, fun x hx => ?_, fun x => by rw [hdt]; exact h.1.byt x, fun x hx => ?_⟩, ⟨fun q t j ht => ?_, fun l j hl0 hg => ?_⟩⟩
  · unfold moveM
    refine setE_ok (setE_ok h.1.ok hmf hff fun t j ht => ?_) hmp hfp fun t j ht => ?_
    · unfold updE at ht
      split at ht
      · cases ht
      · exact h.1.ok.ent f t j ht
    · rw [some_setE hmf]
      unfold updE at ht
      split at ht
      · injection ht with ht; rw [← ht]; exact hns
      · have ht2 : entN (setE M f (updE (entN M f) last none)) p t = some j := ht
        rw [ent_setE hf] at ht2
        exact h.1.ok.ent p t j (hmono _ _ _ ht2)
  · rw [he] at ht
    unfold putE at ht
    split at ht
    · injection ht with ht; exact hn2 ht
    · split at ht
      · cases ht
      · exact h.1.noroot q t ht
  · rw [hsm] at hx
    rw [he, hlk, hl x hx h2]
    have h3 := hj' x
    have h4 := hj2 x
    rw [h4]
    omega
  · rw [hsm] at hx
    rw [hlk, hd, hdt]
    exact h.1.lk x hx
  · rw [hsm] at hx
    rw [he]
    obtain ⟨l, hlx⟩ := h.1.reach x hx
    rcases goE_del hs l 2 x hlx with h1 | ⟨l1, l2, rfl, h1, h2⟩
    · exact ⟨l, goE_mono hmono2 l 2 x h1⟩
    · refine ⟨rp ++ [en] ++ l2, ?_⟩
      rw [goE_append, goE_snoc.2 ⟨p, goE_mono hmono2 rp 2 p hdp, putE_self⟩]
      exact goE_mono hmono2 l2 n x (hdn l2 x h2)
  · rw [he] at ht
    unfold putE at ht
    split at ht
    · rename_i hc
      rw [hc.2]; exact hnm
    · split at ht
      · cases ht
      · exact h.2.nam q t j ht
  · rw [he] at hg
    have hdb : dirB (moveM M f last p en n) j = dirB M j := by unfold dirB; rw [hd]
    rw [hdb]
    rcases goE_add (fun l hh => hno l (goE_mono hmono l n p hh)) l.length l j (Nat.le_refl _) hg with h1 | ⟨l1, l2, rfl, h1, h2⟩
    · exact h.2.short l j hl0 (goE_mono hmono l 2 j h1)
    · have h1' := goE_mono hmono l1 2 p h1
      rw [h.1.uniq l1.length l1 rp p (Nat.le_refl _) hp h1' hrp, longN_append]
      exact hlong l2 j (goE_mono hmono l2 n j h2)
/-- How many bytes the longest path below a node has more. -/
theorem DeepIs.less {M' : TM} {i : Nat} {D : Int} (h : DeepIs M i D) (he : ∀ p s j, entN M' p s = some j → entN M p s = some j) (hd : ∀ l j, goE (entN M') i l = some j → dirB M' j = dirB M j) : ∀ l j, goE (entN M') i l = some j → longN l + dirB M' j ≤ D := fun l j hg => by
  rw [hd l j hg]
  exact h.2 l j (goE_mono he l i j hg)
end
end Go.Proofs.Ytoofcnehoffllaa

namespace Go.Proofs.Ytoofcnehoffllaa
open Go.RowKit

open Classical in
/-- How many bytes the longest path below a node has more than its own. -/
noncomputable def deepN (M : TM) (i : Nat) : Int := if h : ∃ D, DeepIs M i D then h.choose else 0
theorem deepN_of {M : TM} {i : Nat} {D : Int} (h : DeepIs M i D) : deepN M i = D := by
  unfold deepN
  rw [dif_pos ⟨D, h⟩]
  exact (Exists.choose_spec (⟨D, h⟩ : ∃ D, DeepIs M i D)).eq h
theorem deep_exists {M : TM} (hS : TS M) {lp : List ByteArray} {i : Nat} (hl : goE (entN M) 2 lp = some i) : ∃ D, DeepIs M i D := by
  apply Classical.byContradiction
  intro hc
  have key : ∀ k : Nat, ∃ l j, goE (entN M) i l = some j ∧ (k : Int) ≤ longN l + dirB M j := by
    intro k
    induction k with
    | zero => exact ⟨[], i, rfl, by have := dirB_bd M i; simp only [longN, List.map_nil, List.sum_nil]; omega⟩
    | succ k ih =>
      obtain ⟨l, j, h1, h2⟩ := ih
      apply Classical.byContradiction
      intro hn
      refine hc ⟨longN l + dirB M j, ⟨l, j, h1, rfl⟩, fun l' j' h' => ?_⟩
      apply Classical.byContradiction
      intro h3
      exact hn ⟨l', j', h', by omega⟩
  obtain ⟨l, j, h1, h2⟩ := key 300
  have h4 : goE (entN M) 2 (lp ++ l) = some j := by rw [goE_append, hl]; exact h1
  have := (hS.len h4).1
  rw [longN_append] at this
  have := longN_len lp
  have := dirB_bd M j
  omega
noncomputable def movedN (M M1 : TM) (old s : ByteArray) (p n : Nat) : Int × TM :=
  if isDir M n && decide (255 < longN (parN s ++ [parL s]) + deepN M n) then (36, M) else match leadN M1 2 (parN old) with
    | .inr _ => (0, M1)
    | .inl f => (0, moveM M1 f (parL old) p (parL s) n)
/-- What Rename answers, and what the tree is then. -/
noncomputable def renameN (M : TM) (old s : ByteArray) : Int × TM :=
  if parE old ≠ 0 then (parE old, M) else if parE s ≠ 0 then (parE s, M) else match lookN M old with
    | .inr c => (c, M)
    | .inl n => if placeC M s ≠ 0 then (placeC M s, M) else match leadN M 2 (parN s) with
      | .inr _ => (0, M)
      | .inl p => if isDir M n && isPre (parN old ++ [parL old]) (parN s) then (22, M) else if splitD s && !isDir M n then (20, M) else match entN M p (parL s) with
        | some t => if t = n then (0, M) else if wrongN M t (isDir M n) ≠ 0 then (wrongN M t (isDir M n), M) else movedN M (dropT M p (parL s) t) old s p n
        | none => movedN M M old s p n
section
variable {M : TM} {cap : Nat}
/-- What is so behind the questions of Rename. -/
structure MvOk (M M1 : TM) (old s : ByteArray) (p n f : Nat) : Prop where
  lf : leadN M 2 (parN old) = .inl f
  ef : entN M f (parL old) = some n
  lp : leadN M 2 (parN s) = .inl p
  dp : isDir M p = true
  pre : (isDir M n && isPre (parN old ++ [parL old]) (parN s)) = false
  way : (entN M p (parL s) = none ∧ M1 = M) ∨ ∃ t, entN M p (parL s) = some t ∧ t ≠ n ∧ (∀ x, entN M t x = none) ∧ M1 = dropT M p (parL s) t
theorem MvOk.facts {M1 : TM} {old s : ByteArray} {p n f : Nat} (h : MvOk M M1 old s p n f) (hG : Good M cap) : Good M1 cap ∧ leadN M1 2 (parN old) = .inl f ∧ entN M1 f (parL old) = some n ∧ leadN M1 2 (parN s) = .inl p ∧ isDir M1 p = true ∧ entN M1 p (parL s) = none ∧
    (∀ q t j, entN M1 q t = some j → entN M q t = some j) ∧ (∀ x, (M1 x).isSome = true → isDir M1 x = isDir M x) := by
  rcases h.way with ⟨he, rfl⟩ | ⟨t, he, htn, hno, rfl⟩
  · exact ⟨hG, h.lf, h.ef, h.lp, h.dp, he, fun _ _ _ => id, fun _ _ => rfl⟩
  · obtain ⟨nt, hmt⟩ := Option.isSome_iff_exists.1 (hG.1.ok.ent p (parL s) t he)
    obtain ⟨e1, d1⟩ := drop_ent hmt he hno
    have hgd := hG.drop he hno
    have hft : f ≠ t := fun e => by have := h.ef; rw [e, hno] at this; cases this
    have hpt : p ≠ t := fun e => by rw [e, hno] at he; cases he
    have hlf := goE_drop hno he (parN old) 2 f hft ((lead_goE _ _ _).1 h.lf)
    have hlp := goE_drop hno he (parN s) 2 p hpt ((lead_goE _ _ _).1 h.lp)
    rw [← e1] at hlf hlp
    have hsp : (dropT M p (parL s) t p).isSome = true := by
      have := (lead_goE (M := dropT M p (parL s) t) (parN s) 2 p).2 hlp
      exact lead_there hgd.1.ok _ 2 p hgd.1.ok.root_there this
    refine ⟨hgd, (lead_goE _ _ _).2 hlf, ?_, (lead_goE _ _ _).2 hlp, (d1 p hsp).trans h.dp, by rw [e1]; exact putE_self, fun q x j hx => ?_, d1⟩
    · rw [e1, putE_other (fun e => by
        have := h.ef
        rw [e.1, e.2, he] at this
        injection this with this
        exact htn this)]
      exact h.ef
    · rw [e1] at hx
      unfold putE at hx
      split at hx
      · cases hx
      · exact hx
theorem Good.moved {M1 : TM} {old s : ByteArray} {p n f : Nat} (hG : Good M cap) (h : MvOk M M1 old s p n f) (hs : parE s = 0) (hlong : ¬ (isDir M n && decide (255 < longN (parN s ++ [parL s]) + deepN M n)) = true) : Good (moveM M1 f (parL old) p (parL s) n) cap := by
  obtain ⟨g1, l1, e1, l2, d2, e2, mono, dd⟩ := h.facts hG
  obtain ⟨hnm, hln, hsz⟩ := par_names hs
  have hpn : goE (entN M) 2 (parN old ++ [parL old]) = some n := goE_snoc.2 ⟨f, (lead_goE _ _ _).1 h.lf, h.ef⟩
  have hthere : ∀ l j, goE (entN M1) n l = some j → (M1 j).isSome = true := fun l j hg => by
    have : leadN M1 2 (parN old ++ [parL old] ++ l) = .inl j := (lead_goE _ _ _).2 (by
      rw [goE_append, goE_snoc.2 ⟨f, (lead_goE _ _ _).1 l1, e1⟩]; exact hg)
    exact lead_there g1.1.ok _ 2 j g1.1.ok.root_there this
  refine g1.move e1 d2 e2 (hnm _ (by simp)) ((lead_goE _ _ _).1 l2) (fun l hg => ?_) fun l j hg => ?_
  · have hg' := goE_mono mono l n p hg
    cases hdn : isDir M n with
    | false =>
      obtain ⟨_, hpe⟩ := goE_sub (ent_file hdn) l p hg'
      have := h.dp
      rw [hpe, hdn] at this; cases this
    | true =>
      have h2 : goE (entN M) 2 (parN old ++ [parL old] ++ l) = some p := by rw [goE_append, hpn]; exact hg'
      have := hG.1.uniq (parN s).length (parN s) _ p (Nat.le_refl _) h.dp ((lead_goE _ _ _).1 h.lp) h2
      have hp := h.pre
      rw [hdn, Bool.true_and] at hp
      unfold isPre at hp
      rw [decide_eq_false_iff_not] at hp
      exact hp (by rw [this]; exact List.take_left.symm)
  · have hg' := goE_mono mono l n j hg
    have hdj : dirB M1 j = dirB M j := by unfold dirB; rw [dd j (hthere l j hg)]
    rw [hdj]
    cases hdn : isDir M n with
    | false =>
      obtain ⟨rfl, rfl⟩ := goE_sub (ent_file hdn) l j hg'
      have : dirB M j = 0 := by unfold dirB; rw [hdn]; decide
      rw [this]
      simp only [longN, List.map_nil, List.sum_nil] at hln ⊢
      omega
    | true =>
      obtain ⟨D, hD⟩ := deep_exists hG.2 hpn
      rw [hdn, deepN_of hD, Bool.true_and, decide_eq_true_eq] at hlong
      have := hD.2 l j hg'
      omega
theorem Good.rename (hG : Good M cap) (old s : ByteArray) : Good (renameN M old s).2 cap := by
  unfold renameN
  by_cases h1 : parE old = 0
  · rw [if_neg (by rw [h1]; simp)]
    by_cases h2 : parE s = 0
    · rw [if_neg (by rw [h2]; simp)]
      cases hq : lookN M old with
      | inr c => exact hG
      | inl n =>
        dsimp only
        by_cases hc : placeC M s = 0
        · rw [if_neg (by rw [hc]; simp)]
          obtain ⟨f, hlf, hef⟩ := look_par h1 hq
          cases hlp : leadN M 2 (parN s) with
          | inr c => exact hG
          | inl p =>
            dsimp only
            have hpd : isDir M p = true := by
              unfold placeC at hc
              rw [if_neg (by rw [h2]; simp), hlp] at hc
              have hc : (if isDir M p = true then (0 : Int) else 20) = 0 := hc
              cases hd : isDir M p with
              | true => rfl
              | false => rw [hd] at hc; cases hc
            by_cases hp : (isDir M n && isPre (parN old ++ [parL old]) (parN s)) = true
            · rw [if_pos hp]; exact hG
            · rw [if_neg hp]
              have hp' := Bool.eq_false_iff.2 hp
              by_cases hsd : (splitD s && !isDir M n) = true
              · rw [if_pos hsd]; exact hG
              · rw [if_neg hsd]
                have fin : ∀ {M1 : TM}, MvOk M M1 old s p n f → Good (movedN M M1 old s p n).2 cap := fun {M1} hm => by
                  unfold movedN
                  by_cases hl : (isDir M n && decide (255 < longN (parN s ++ [parL s]) + deepN M n)) = true
                  · rw [if_pos hl]; exact hG
                  · rw [if_neg hl, (hm.facts hG).2.1]
                    exact hG.moved hm h2 hl
                cases he : entN M p (parL s) with
                | none => exact fin ⟨hlf, hef, hlp, hpd, hp', .inl ⟨he, rfl⟩⟩
                | some t =>
                  dsimp only
                  by_cases htn : t = n
                  · rw [if_pos htn]; exact hG
                  · rw [if_neg htn]
                    by_cases hw : wrongN M t (isDir M n) = 0
                    · rw [if_neg (by rw [hw]; simp)]
                      exact fin ⟨hlf, hef, hlp, hpd, hp', .inr ⟨t, he, htn, wrong_none hw, rfl⟩⟩
                    · rw [if_pos hw]; exact hG
        · rw [if_pos hc]; exact hG
    · rw [if_pos h2]; exact hG
  · rw [if_pos h1]; exact hG
end
section
variable {P : Program} {T E : TypeId} {k bt : Nat} {z : Value} {ops : Array Oper} {rest : List Oper} {o : Oper} {a : Act} {w : World} {Q : Exit → Act → World → Prop} {B : Nat} {v x : Value} {n m : Nat} {xs ys : List Value}
/-- append where a guard's answer is known. -/
theorem wpList_append_gg (hw : Region.wanted o (yielded ops a.tmps) = true) (s y : Operand) (ho : o.op = .call { callee := .builtin .append, args := #[s, y], argTypes := #[T, T] }) (h : ElT P T E k bt z)
    (hs : a.eval s = v) (hown : w.ownsRow B E k v n xs) (hy : a.eval y = x) (hx : SrcG k w x m ys) (h63 : n + m ≤ maxLen) (hlen : (n + m) * bt ≤ 140737488355328) (hB : B ≤ w.heap.size)
    (hK : ∀ v' w', w'.ownsRow B E k v' (n + m) (xs ++ ys) → Fr (fun y => v.ownBlock = some y) w w' → (v'.ownBlock = v.ownBlock ∨ v'.ownBlock = some w.heap.size) → wpList P ops Q rest (a.put o.dst v') w') : wpList P ops Q (o :: rest) a w :=
  wpList_of_wp hw fun _ hK' => wp_append_g s y ho h hs hown hy hx h63 hlen hB fun v' w' h2 h3 h4 => hK' _ _ (hK v' w' h2 h3 h4)
end
end Go.Proofs.Ytoofcnehoffllaa

namespace Go.Proofs.Ytoofcnehoffllaa
open Go.RowKit

section
variable {w w' : World} {tb nb cap : Nat} {P E : Nat → Option Nat} {V : Nat → Value} {M : TM}
set_option maxHeartbeats 2000000 in
set_option maxRecDepth 100000 in
theorem drop_keep {F : Nat → Prop} {p bp i : Nat} {q nd : Nd} {f : ByteArray → Option Nat} {s : ByteArray} {ob : Bool} {n : Int} (h : TIn w tb nb cap P E V M) (hFt : ∀ b, TFoot tb nb P E V b → F b)
    (hq : M p = some q) (hf : q.ents = some f) (hp : P p = some bp) (hs : f s = some i) (hm : M i = some nd) (hip : i ≠ p) (hi2 : i ≠ 2) (hl : 1 ≤ nd.links ∧ nd.links ≤ 100)
    (hno : nd.links = 1 → ∀ r t, r ≠ i → entN M r t = some i → r = p ∧ t = s) :
    Calls Try.prog 44 #[.pointer (some ⟨tb, 0, none⟩), placeA (.pointer (some ⟨bp, 0, none⟩)) s ob n] w fun e w' => e = .returned (.tuple #[]) ∧ ∃ nb' P' E' V', TIn w' tb nb' cap P' E' V' (dropM M p f s i nd) ∧ (∀ x, TFoot tb nb' P' E' V' x → F x) ∧ Fr F w w' ∧ ∀ j, j ≠ i → P' j = P j := by
  have hbp := h.node p bp q hp hq
  obtain ⟨pe, hE, hMp⟩ : ∃ pe, E p = some pe ∧ MapIs Value.string w pe (entF P f) := by
    have := h.ents p q hq
    rw [hf] at this; exact this
  obtain ⟨b, hb, hbn⟩ := h.at_ hm
  rw [hE] at hbp
  have c1 := cell_blk_some hbp (i := 1) rfl
  have hlk := hMp.look1 klS Try.underlying65 zero_node s
  clear hlk c1
  have hsv : (entF P f s).getD (.pointer none) = .pointer (some ⟨b, 0, none⟩) := by unfold entF; rw [hs]; show nptr (P i) = _; rw [hb]; rfl
  have HH := Lib.hid h; have HFT := Lib.hid hFt
  unfold placeA
  obtain ⟨w0, hw0⟩ : ∃ w0, w0 = w.alloc (.cells #[.pointer (some ⟨bp, 0, none⟩), .string s, .bool ob, .int .i64 n] 81) := ⟨_, rfl⟩
  have hB0 : Below w.heap.size w w0 := by rw [hw0]; exact (Below.refl _ w).alloc (Nat.le_refl _) _
  have hx : w0.heap[w.heap.size]? = some (.cells #[.pointer (some ⟨bp, 0, none⟩), .string s, .bool ob, .int .i64 n] 81 (0, 0)) := by rw [hw0]; exact blk_new rfl
  have h0 := h.below hB0
  have hMp0 : MapIs Value.string w0 pe (entF P f) := hMp.same (hB0.block _ hMp.lt)
  have hlk : ∀ n, (Instr.lookup 65 (.map (some pe)) (.string s) false).run Try.prog (w0.drewN n) = .ok (.pointer (some ⟨b, 0, none⟩)) (w0.drewN n) := fun n => by
    have := (hMp0.same (w' := w0.drewN n) rfl).look1 klS Try.underlying65 zero_node s
    rw [hsv] at this; exact this
  have c1 := cell_blk_some ((hB0.block _ (blk_lt hbp)).trans hbp) (i := 1) rfl
  have x0 := cell_blk_some hx (i := 0) rfl
  have x1 := cell_blk_some hx (i := 1) rfl
  have HB0 := Lib.hid hB0; have HX := Lib.hid hx; have H0 := Lib.hid h0; have HM0 := Lib.hid hMp0; have HBN := Lib.hid hbn; have HBP := Lib.hid hbp
  have HNO := Lib.hid hno
  have HQ := Lib.hid hq; have HF := Lib.hid hf; have HP := Lib.hid hp; have HS := Lib.hid hs; have HM := Lib.hid hm; have HE := Lib.hid hE; have HB := Lib.hid hb
  clear h hFt hB0 hx h0 hMp0 hMp hbn hbp hno hq hf hp hs hm hE hb hsv
  go_enter Try.func44, Try.ntmps44
  go_wp2_with fail
  try rw [← hw0]
  clear hw0
  generalize hxb : w.heap.size = xb at *
  have HXB := Lib.hid hxb
  clear hxb
  go_quiet (fail)
  generalize hw1 : w0.drewN _ = w1
  have hb01 : Below w0.heap.size w0 w1 := by rw [← hw1]; exact below_drewN (Below.refl _ w0) _
  have FR1 := Lib.hid ((Fr.below (S := fun _ => False) (by rw [HXB.out]; exact HB0.out)).trans (Fr.below hb01))
  have h1 := H0.out.below hb01
  have hx1 := (hb01.block _ (blk_lt HX.out)).trans HX.out
  have hMp1 : MapIs Value.string w1 pe (entF P f) := HM0.out.same (hb01.block _ HM0.out.lt)
  have hbp1 := h1.node p bp q HP.out HQ.out
  rw [HE.out] at hbp1
  clear hw1 c1 x0 x1 hlk
  obtain ⟨w2, hdel, hM2, hf2⟩ := (hMp1.same (w' := w1.drew) rfl).del klS Try.underlying65 s
  have c1 := cell_blk_some hbp1 (i := 1) rfl
  have x0 := cell_blk_some hx1 (i := 0) rfl
  have x1 := cell_blk_some hx1 (i := 1) rfl
  have hf12 : Fr (fun x => x = pe) w1 w2 := ((Fr.refl _ w1).drew).trans hf2
  rw [← entF_del] at hM2
  have h2 : TIn w2 tb nb cap P E V (setE M p (updE f s none)) := h1.mapset HQ.out HF.out HE.out hM2 (fun t j ht => by
    unfold updE at ht
    split at ht
    · cases ht
    · exact h1.ok.ent p t j (by rw [entN_of HQ.out, HF.out]; exact ht)) hf12
  have hm2 : setE M p (updE f s none) i = some nd := by rw [setE_o hip]; exact HM.out
  have hb2 := h2.node i b nd HB.out hm2
  have d3 := cell_blk_some hb2 (i := 3) rfl
  have g3 := free_blk (i := 3) hb2
  have hb3 := blk_set (i := 3) hb2 (.int .i64 (nd.links - 1))
  have hf3 : Fr (fun x => x = b) w2 (w2.setCell ⟨b, 3, none⟩ (.int .i64 (nd.links - 1))) := (Fr.refl (fun x => x = b) w2).setCell ⟨b, 3, none⟩ rfl _
  have hF3 : Fr (fun x => x = pe ∨ x = b) w (w2.setCell ⟨b, 3, none⟩ (.int .i64 (nd.links - 1))) := ((FR1.out.tell fun x hx => hx.elim).trans (hf12.tell fun x hx => .inl hx)).trans (hf3.tell fun x hx => .inr hx)
  have h3 : TIn (w2.setCell ⟨b, 3, none⟩ (.int .i64 (nd.links - 1))) tb nb cap P E (updV' V i (V i)) (setN (setE M p (updE f s none)) i (nd.links - 1) nd.data) := h2.nodeset hm2 HB.out hb3
    (own_frame (h2.data i nd hm2) hf3 fun g hg e => by
      rcases (h2.data i nd hm2).2 with hh | ⟨g2, cap', cur, e2, h1, hgg, hr'⟩
      · rw [hh.1] at hg; cases hg
      · rw [e2] at hg
        injection hg with hg
        have hg : g2 = g := hg
        rw [hg, e, hb2] at hgg
        injection hgg with hgg
        injection hgg with _ hgg _
        exact absurd hgg (by decide)) (fun j c h1 h2' => h2.vin j i c h2' h1) (hf3.tell fun x hx => .inl hx)
  obtain ⟨cs, hr3, hz3, hcs3⟩ := h3.row
  have hic := (h3.ok.low i _ (setN_i hm2)).2
  have e0 := cell_blk_some h3.top (i := 0) rfl
  have e1 := cell_blk_some hb3 (i := 0) rfl
  have e3 := cell_blk_some hb3 (i := 3) rfl
  have e4 := cell_blk_some hr3 (hcs3 i hic)
  have e5 := free_blk (i := i) hr3
  have H3 := Lib.hid h3; have HR3 := Lib.hid hr3; have HZ3 := Lib.hid hz3; have HCS3 := Lib.hid hcs3; have HF3 := Lib.hid hF3; have HM2 := Lib.hid hm2
  clear h1 hx1 hMp1 hM2 hf2 hbp1 H0 HX HM0 HB0 hb01 hf12 h2 hb2 hb3 hf3 h3 hr3 hz3 hcs3 hF3 hm2
  obtain ⟨hl1, hl2⟩ := hl
  generalize hL : nd.links = L at *
  have HL := Lib.hid hL
  clear hL
  go_wp2_with fail
  go_still_tail 7, (by kernel_rfl)
  change wpList _ _ _ _ _ w1.drew
  by_cases hL1 : L = 1
  · subst hL1
    have hz : (1 : Int) - 1 = 0 := rfl
    rw [hz] at H3 HR3 HF3 e0 e1 e3 e4 e5
    go_wp2_with fail
    obtain ⟨w3, hw3⟩ : ∃ w3, w3 = w2.setCell ⟨b, 3, none⟩ (.int .i64 0) := ⟨_, rfl⟩
    rw [← hw3] at H3 HR3 HF3 e0 e1 e3 e4 e5 ⊢
    clear hw3 d3 g3 hdel c1 x0 x1
    rw [HB.out] at e4
    have e4' : w3.cell? ⟨nb, i, none⟩ = some (.pointer (some ⟨b, 0, none⟩)) := e4
    have b0 : (0 : Int) ≤ (i : Int) := by omega
    have b1 : (i : Int) < (cap : Int) := by omega
    clear e4
    go_region_law (fail)
    all_goals
      go_wp2_with fail
      go_end0
      refine ⟨rfl, ?_⟩
      unfold dropM
      rw [HL.out, show (1 : Int) - 1 = 0 from rfl, if_pos rfl]
      have hf4 : Fr (fun x => x = nb) w3 (w3.setCell ⟨nb, i, none⟩ (.pointer none)).drew := ((Fr.refl (fun x => x = nb) w3).setCell ⟨nb, i, none⟩ rfl _).drew
      have hk := H3.out.kill (w' := (w3.setCell ⟨nb, i, none⟩ (.pointer none)).drew) (setN_i HM2.out) hi2 (fun r t hr ht => by
          rw [entN_setN, entN_setE HQ.out HF.out] at ht
          by_cases e : r = p
          · rw [if_pos e] at ht
            unfold updE at ht
            split at ht
            · cases ht
            · rename_i ne
              exact ne (HNO.out (by trivial) p t (fun e' => hip e'.symm) (by rw [entN_of HQ.out, HF.out]; exact ht)).2
          · rw [if_neg e] at ht
            exact e (HNO.out (by trivial) r t hr ht).1)
        ⟨_, blk_set (w := w3) HR3.out _, by rw [Array.size_setIfInBounds]; exact HZ3.out, fun j hj => by
          rw [Array.getElem?_setIfInBounds]
          by_cases e : i = j
          · rw [if_pos e, if_pos (by rw [HZ3.out]; omega), e, updO_self]; rfl
          · rw [if_neg e, updO_other (fun e' => e e'.symm)]; exact HCS3.out j hj⟩ hf4
      refine ⟨nb, _, _, _, hk, fun x hx => HFT.out x ?_, ?_, fun j hj => updO_other hj⟩
      · have po : ∀ {Q : Nat → Option Nat} {x b : Nat}, updO Q i none x = some b → Q x = some b := fun {Q x b} hx => by
          by_cases e : x = i
          · rw [e, updO_self] at hx; cases hx
          · rw [updO_other e] at hx; exact hx
        rcases hx with h | h | ⟨j, h⟩ | ⟨j, h⟩ | ⟨j, h⟩
        · exact .inl h
        · exact .inr (.inl h)
        · exact .inr (.inr (.inl ⟨j, po h⟩))
        · exact .inr (.inr (.inr (.inl ⟨j, po h⟩)))
        · refine .inr (.inr (.inr (.inr ⟨j, ?_⟩)))
          unfold updV' at h
          split at h
          · cases h
          · first
              | exact h
              | (split at h
                 · rename_i e; rw [e]; exact h
                 · exact h)
      · refine (HF3.out.tell fun x hx => ?_).trans (hf4.tell fun x hx => ?_)
        · rcases hx with h | h
          · exact HFT.out x (.inr (.inr (.inr (.inl ⟨p, by rw [h]; exact HE.out⟩))))
          · exact HFT.out x (.inr (.inr (.inl ⟨i, by rw [h]; exact HB.out⟩)))
        · exact HFT.out x (.inr (.inl hx))
  · have hne : L - 1 ≠ 0 := by omega
    have hne' : (L - 1 == 0) = false := by simpa using hne
    go_wp2_with fail
    go_end0
    refine ⟨rfl, ?_⟩
    unfold dropM
    rw [HL.out, if_neg hne]
    refine ⟨nb, P, E, _, H3.out, fun x hx => HFT.out x ?_, HF3.out.tell fun x hx => ?_, fun _ _ => rfl⟩
    · rcases hx with h | h | h | h | ⟨j, h⟩
      · exact .inl h
      · exact .inr (.inl h)
      · exact .inr (.inr (.inl h))
      · exact .inr (.inr (.inr (.inl h)))
      · refine .inr (.inr (.inr (.inr ⟨j, ?_⟩)))
        unfold updV' at h
        split at h
        · rename_i e; rw [e]; exact h
        · exact h
    · rcases hx with h | h
      · exact HFT.out x (.inr (.inr (.inr (.inl ⟨p, by rw [h]; exact HE.out⟩))))
      · exact HFT.out x (.inr (.inr (.inl ⟨i, by rw [h]; exact HB.out⟩)))
end
end Go.Proofs.Ytoofcnehoffllaa

namespace Go.Proofs.Ytoofcnehoffllaa
open Go.RowKit

section
variable {w w' : World} {tb nb cap : Nat} {P E : Nat → Option Nat} {V : Nat → Value} {M : TM}
theorem move_del (H : TIn w tb nb cap P E V M) {f n : Nat} {last : ByteArray} (hs : entN M f last = some n) :
    ∃ bf ef, ∃ nd : Nd, P f = some bf ∧ w.heap[bf]? = some (.cells #[.int .i64 f, .map (some ef), V f, .int .i64 nd.links] 67 (0, 0)) ∧ E f = some ef ∧ (∃ es c, w.heap[ef]? = some (.map es c)) ∧
    ∃ w2, (∀ ty, (Builtin.delete_ #[65, 9] ty #[.map (some ef), .string last]).run Try.prog w.drew = .ok (.tuple #[]) w2) ∧ TIn w2 tb nb cap P E V (setE M f (updE (entN M f) last none)) ∧ Fr (fun x => x = ef) w w2 := by
  have hd := ent_dir hs
  obtain ⟨nd, g, hm, hg⟩ := isDir_there hd
  obtain ⟨ef, hE, hMp⟩ : ∃ pe, E f = some pe ∧ MapIs Value.string w pe (entF P g) := by
    have := H.ents f nd hm
    rw [hg] at this; exact this
  obtain ⟨bf, hbf, _⟩ := H.at_ hm
  have hb := H.node f bf nd hbf hm
  rw [hE] at hb
  obtain ⟨w2, hdel, hM2, hf2⟩ := (hMp.same (w' := w.drew) rfl).del klS Try.underlying65 last
  have hf12 : Fr (fun x => x = ef) w w2 := ((Fr.refl _ w).drew).trans hf2
  rw [← entF_del] at hM2
  rw [ent_fun hm hg]
  obtain ⟨es, c, hes, _⟩ := hMp
  exact ⟨bf, ef, nd, hbf, hb, hE, ⟨es, c, hes⟩, w2, hdel, H.mapset hm hg hE hM2 (fun t j ht => by
    unfold updE at ht
    split at ht
    · cases ht
    · exact H.ok.ent f t j (by rw [ent_fun hm hg]; exact ht)) hf12, hf12⟩
theorem move_put (H : TIn w tb nb cap P E V M) {p n bn : Nat} {en : ByteArray} (hp : isDir M p = true) (hn : (M n).isSome = true) (hbn : P n = some bn) :
    ∃ bp ep, ∃ nd : Nd, P p = some bp ∧ w.heap[bp]? = some (.cells #[.int .i64 p, .map (some ep), V p, .int .i64 nd.links] 67 (0, 0)) ∧ E p = some ep ∧
    ∃ w2, (Instr.mapUpdate 65 (.map (some ep)) (.string en) (.pointer (some ⟨bn, 0, none⟩))).run Try.prog w = .ok () w2 ∧ TIn w2 tb nb cap P E V (setE M p (updE (entN M p) en (some n))) ∧ Fr (fun x => x = ep) w w2 := by
  obtain ⟨nd, g, hm, hg⟩ := isDir_there hp
  obtain ⟨ep, hE, hMp⟩ : ∃ pe, E p = some pe ∧ MapIs Value.string w pe (entF P g) := by
    have := H.ents p nd hm
    rw [hg] at this; exact this
  obtain ⟨bp, hbp, _⟩ := H.at_ hm
  have hb := H.node p bp nd hbp hm
  rw [hE] at hb
  obtain ⟨w2, hput, hM2, hf12⟩ := hMp.put klS Try.underlying65 en (.pointer (some ⟨bn, 0, none⟩))
  rw [show (Value.pointer (some ⟨bn, 0, none⟩)) = nptr (P n) by rw [hbn]; rfl, ← entF_set] at hM2
  rw [ent_fun hm hg]
  refine ⟨bp, ep, nd, hbp, hb, hE, w2, hput, H.mapset hm hg hE hM2 (fun t j ht => ?_) hf12, hf12⟩
  unfold updE at ht
  split at ht
  · have ht : n = j := Option.some.inj ht
    exact ht ▸ hn
  · exact H.ok.ent p t j (by rw [ent_fun hm hg]; exact ht)
theorem node_info : (Try.prog.info? 67).map (fun j => j.size != 0) = some true := by kernel_rfl
end
end Go.Proofs.Ytoofcnehoffllaa

namespace Go.Proofs.Ytoofcnehoffllaa
open Go.RowKit

section
variable {w w' : World} {tb nb cap : Nat} {P E : Nat → Option Nat} {V : Nat → Value} {M : TM}
theorem run_eql_nil_left {P : Program} (w : World) {tp te : TypeId} (a : Addr) (hp : P.underlying tp = some (.pointer te)) :
    (binOp .eql tp (.pointer none) (.pointer (some a))).run P w = .ok (.bool false) w := by
  have h : ∀ d : Nat, (Op.equalIn (d + 1) tp (.pointer none) (.pointer (some a))).run P w = .ok false w := fun d => by
    simp [Op.equalIn, run_underlying hp]
  simp only [binOp]
  simp [Op.equal, Op.maxDepth, h 9999]
theorem TIn.foot_lt' (h : TIn w tb nb cap P E V M) {b : Nat} (hb : TFoot tb nb P E V b) : b < w.heap.size := by
  rcases hb with h1 | h1 | ⟨i, h1⟩ | ⟨i, h1⟩ | ⟨i, h1⟩
  · rw [h1]; exact blk_lt h.top
  · obtain ⟨cs, hr, _⟩ := h.row
    rw [h1]; exact blk_lt hr
  · have hs : (M i).isSome = true := by rw [← h.dom i, h1]; rfl
    obtain ⟨nd, hm⟩ := Option.isSome_iff_exists.1 hs
    exact blk_lt (h.node i b nd h1 hm)
  · obtain ⟨es, c, hm⟩ := h.elt h1
    exact blk_lt hm
  · cases hm : M i with
    | none => rw [(h.eno i hm).2] at h1; cases h1
    | some nd => exact (World.ownsRow.lt (h.data i nd hm) b h1).2
theorem below_mono_call {B : Nat} {w w' : World} (h : Below w.heap.size w w') (hB : B ≤ w.heap.size) : Below B w w' := h.mono hB
set_option maxHeartbeats 8000000 in
set_option maxRecDepth 100000 in
theorem rename_any {F : Nat → Prop} (hAt : TAt w tb cap F M) (hG : Good M cap) (old s : ByteArray) (ho : old.size ≤ 1000000) (hs : s.size ≤ 1000000) :
    Calls Try.prog 25 #[.pointer (some ⟨tb, 0, none⟩), .string old, .string s] w fun e w' => e = .returned (.int .i64 (renameN M old s).1) ∧ TLeft w w' tb cap F (renameN M old s).2 := by
  obtain ⟨nb, P, E, V, h, hFt⟩ := hAt
  have HFT := Lib.hid hFt; have HT := Lib.hid h; have HG := Lib.hid hG; have HSZ := Lib.hid hs; have HOZ := Lib.hid ho
  have HP1 := Lib.hid (parent_any old ho w)
  have hmf : ∀ (fn : Fn) (first cap : Array Value) (w : World), (Instr.makeFunc fn first cap).run Try.prog w = .ok (.func fn first cap) w := fun _ _ _ _ => rfl
  clear hFt h hG hs ho
  unfold ParPost at HP1
  by_cases hE : parE old = 0
  · have HE := Lib.hid hE
    rw [hE] at HP1
    clear hE
    go_enter Try.func25, Try.ntmps25
    go_wp2_with fail
    refine HP1.out.mono ?_
    rintro e w1 ⟨v1, rfl, -, hb1, ho1⟩
    have HB1 := Lib.hid hb1; have HO1 := Lib.hid ho1
    have HP2 := Lib.hid (parent_any s HSZ.out w1)
    unfold ParPost at HP2
    clear hb1 ho1 HP1
    by_cases hPE : parE s = 0
    · have HPE := Lib.hid hPE
      rw [hPE] at HP2
      clear hPE
      go_wp2_with fail
      refine HP2.out.mono ?_
      rintro e w2 ⟨v2, rfl, -, hb2, ho2⟩
      have HB2 := Lib.hid (below_call HB1.out hb2 (Nat.le_refl _))
      have HO1b := Lib.hid (own_frame HO1.out (S := fun _ => False) (Fr.below hb2) fun _ _ => id)
      have HNEQ : Hid (∀ b, v2.ownBlock = some b → ¬ v1.ownBlock = some b) := Lib.hid fun b h2 h1 => by
        have q1 := (HO1.out.lt b h1).2
        have q2 := (ho2.lt b h2).1
        omega
      have HO2 := Lib.hid ho2
      have HL := Lib.hid (look_any (HT.out.below HB2.out) old HOZ.out)
      clear hb2 ho2 HP2 HB1 HO1
      go_wp2_with fail
      refine HL.out.mono ?_
      rintro e w3 ⟨rfl, hb3⟩
      have HB3 := Lib.hid (below_call HB2.out hb3 (Nat.le_refl _))
      have HO1c := Lib.hid (own_frame HO1b.out (S := fun _ => False) (Fr.below hb3) fun _ _ => id)
      have HO2c := Lib.hid (own_frame HO2.out (S := fun _ => False) (Fr.below hb3) fun _ _ => id)
      clear hb3 HL HB2 HO1b HO2
      cases hq : lookN M old with
      | inr c =>
        have hc := look_code hq
        have HRES : Hid (renameN M old s = (c, M)) := Lib.hid (by unfold renameN; rw [if_neg (by rw [HE.out]; simp), if_neg (by rw [HPE.out]; simp), hq])
        have hc2 : (c != 0) = true := by simp [hc]
        have HLT := Lib.hid (TLeft.same HT.out HFT.out HB3.out)
        clear hq hc
        unfold leadV
        go_wp2_with fail
        go_ret
        rw [HRES.out]
        exact ⟨rfl, HLT.out⟩
      | inl n =>
        have hi := look_isin HT.out hq
        have HI := Lib.hid hi
        obtain ⟨f, hlf, hef⟩ := look_par HE.out hq
        have HLF := Lib.hid hlf; have HEFO := Lib.hid hef
        have HPN2 : Hid (goE (entN M) 2 (parN old ++ [parL old]) = some n) := Lib.hid (goE_snoc.2 ⟨f, (lead_goE _ _ _).1 hlf, hef⟩)
        have HLNa : Hid (renameN M old s = if placeC M s ≠ 0 then (placeC M s, M) else match leadN M 2 (parN s) with
            | .inr _ => (0, M)
            | .inl p => if isDir M n && isPre (parN old ++ [parL old]) (parN s) then (22, M) else if splitD s && !isDir M n then (20, M) else match entN M p (parL s) with
              | some t => if t = n then (0, M) else if wrongN M t (isDir M n) ≠ 0 then (wrongN M t (isDir M n), M) else movedN M (dropT M p (parL s) t) old s p n
              | none => movedN M M old s p n) := Lib.hid (by unfold renameN; rw [if_neg (by rw [HE.out]; simp), if_neg (by rw [HPE.out]; simp), hq] <;> rfl)
        obtain ⟨ndi, hmi⟩ := Option.isSome_iff_exists.1 hi
        obtain ⟨bn, hpi, _⟩ := HT.out.at_ hmi
        have HPN := Lib.hid hpi
        have HLV : Hid (leadV P (.inl n) = .tuple #[.pointer (some ⟨bn, 0, none⟩), .int .i64 0]) := Lib.hid (by show Value.tuple #[nptr (P n), _] = _; rw [hpi]; rfl)
        rw [HLV.out]
        have HP3 := Lib.hid (place_any (HT.out.below HB3.out) s HSZ.out)
        clear hq hi hmi hpi hlf hef HLV
        rcases place_ways HT.out s with ⟨hc, po, pl, pb, pn, hv⟩ | ⟨hc, p, bp, eb, nd, hl, hm, hd, hp, he, hv⟩
        · have HRES : Hid (renameN M old s = (placeC M s, M)) := Lib.hid (by rw [HLNa.out, if_pos hc])
          have hc2 : (placeC M s != 0) = true := by simp [hc]
          rw [hv] at HP3
          generalize placeC M s = cp at *
          clear hc hv HLNa
          unfold placeA at HP3
          go_wp2_with fail
          refine HP3.out.mono ?_
          rintro e w4 ⟨rfl, hb4⟩
          have HLT := Lib.hid (TLeft.same HT.out HFT.out (below_call (below_call HB3.out hb4 (Nat.le_refl _)) (show Below w4.heap.size w4 (w4.alloc (.cells #[.pointer po, .string pl, .bool pb, .int .i64 pn] 81)) from (Below.refl _ w4).alloc (Nat.le_refl _) _) (Nat.le_refl _)))
          clear hb4 HP3
          go_wp2_with fail
          go_ret
          rw [HRES.out]
          exact ⟨rfl, HLT.out⟩
        · have HLNb : Hid (renameN M old s = if isDir M n && isPre (parN old ++ [parL old]) (parN s) then (22, M) else if splitD s && !isDir M n then (20, M) else match entN M p (parL s) with
              | some t => if t = n then (0, M) else if wrongN M t (isDir M n) ≠ 0 then (wrongN M t (isDir M n), M) else movedN M (dropT M p (parL s) t) old s p n
              | none => movedN M M old s p n) := Lib.hid (by rw [HLNa.out, if_neg (by rw [hc]; simp), hl])
          obtain ⟨fq, hfq⟩ := Option.isSome_iff_exists.1 (show nd.ents.isSome = true from hd)
          have hdd : isDir M p = true := by rw [isDir_of hm]; exact hd
          have HDD := Lib.hid hdd; have HM := Lib.hid hm; have HND := Lib.hid hd; have HPP := Lib.hid hp; have HEE := Lib.hid he; have HLD := Lib.hid hl; have HFF := Lib.hid hfq
          have HEF := Lib.hid (ent_fun hm hfq)
          have HLG : Hid (0 ≤ longN (parN s ++ [parL s]) ∧ longN (parN s ++ [parL s]) ≤ 255) := Lib.hid (by
            obtain ⟨_, q1, q2⟩ := par_names HPE.out
            have := longN_len (parN s ++ [parL s])
            omega)
          rw [hv] at HP3
          clear hc hl hm hd hp he hv hfq hdd HLNa
          unfold placeA at HP3
          go_wp2_with fail
          refine HP3.out.mono ?_
          rintro e w4 ⟨rfl, hb4⟩
          have OX : Hid ((w4.alloc (.cells #[.pointer (some ⟨bp, 0, none⟩), .string (parL s), .bool (splitD s), .int .i64 (longN (parN s ++ [parL s]))] 81)).heap[w4.heap.size]? = some (.cells #[.pointer (some ⟨bp, 0, none⟩), .string (parL s), .bool (splitD s), .int .i64 (longN (parN s ++ [parL s]))] 81 (0, 0))) := Lib.hid (blk_new rfl)
          have HBA := Lib.hid (below_call (below_call HB3.out hb4 (Nat.le_refl _)) (show Below w4.heap.size w4 (w4.alloc (.cells #[.pointer (some ⟨bp, 0, none⟩), .string (parL s), .bool (splitD s), .int .i64 (longN (parN s ++ [parL s]))] 81)) from (Below.refl _ w4).alloc (Nat.le_refl _) _) (Nat.le_refl _))
          have HXW : Hid (w.heap.size ≤ w4.heap.size) := Lib.hid (Nat.le_trans HB3.out.size hb4.size)
          have HO1d := Lib.hid (own_frame (own_frame HO1c.out (S := fun _ => False) (Fr.below hb4) fun _ _ => id) (S := fun _ => False) (Fr.below ((Below.refl w4.heap.size w4).alloc (Nat.le_refl _) (.cells #[.pointer (some ⟨bp, 0, none⟩), .string (parL s), .bool (splitD s), .int .i64 (longN (parN s ++ [parL s]))] 81))) fun _ _ => id)
          have HO2d := Lib.hid (own_frame (own_frame HO2c.out (S := fun _ => False) (Fr.below hb4) fun _ _ => id) (S := fun _ => False) (Fr.below ((Below.refl w4.heap.size w4).alloc (Nat.le_refl _) (.cells #[.pointer (some ⟨bp, 0, none⟩), .string (parL s), .bool (splitD s), .int .i64 (longN (parN s ++ [parL s]))] 81))) fun _ _ => id)
          have HX1 : Hid (∀ b, v1.ownBlock = some b → b < w4.heap.size) := Lib.hid fun b h1 => Nat.lt_of_lt_of_le (HO1c.out.lt b h1).2 hb4.size
          clear hb4 HP3 HO1c HO2c
          go_wp2_with fail
          generalize (w4.alloc (.cells #[.pointer (some ⟨bp, 0, none⟩), .string (parL s), .bool (splitD s), .int .i64 (longN (parN s ++ [parL s]))] 81)) = w5 at *
          generalize w4.heap.size = xb at *
          have HDX := Lib.hid (dir_any (HT.out.below HBA.out) HI.out)
          rw [HPN.out] at HDX
          unfold nptr at HDX
          cases hdn : isDir M n with
          | false =>
            have HDN := Lib.hid hdn
            rw [hdn] at HDX
            refine HDX.out.mono ?_
            rintro e wx ⟨rfl, rfl⟩
            have x2 := cell_blk_some OX.out (i := 2) rfl
            have HLNc : Hid (renameN M old s = if splitD s then (20, M) else match entN M p (parL s) with
                  | some t => if t = n then (0, M) else if wrongN M t (isDir M n) ≠ 0 then (wrongN M t (isDir M n), M) else movedN M (dropT M p (parL s) t) old s p n
                  | none => movedN M M old s p n) := Lib.hid (by rw [HLNb.out, hdn]; simp only [Bool.false_and, Bool.not_false, Bool.and_true]; rw [if_neg (by decide)])
            have HPRE : Hid ((isDir M n && isPre (parN old ++ [parL old]) (parN s)) = false) := Lib.hid (by rw [hdn]; rfl)
            clear hdn HLNb HO1d HO2d HX1 HNEQ
            cases hsd : splitD s with
            | true =>
              have HDX2 := HDX
              clear HDX
              have HRES : Hid (renameN M old s = (20, M)) := Lib.hid (by rw [HLNc.out, hsd, if_pos rfl])
              have HLT := Lib.hid (TLeft.same HT.out HFT.out HBA.out)
              rw [hsd] at x2
              clear HLNc hsd
              go_wp2_with fail
              refine HDX2.out.mono ?_
              rintro e wx2 ⟨rfl, rfl⟩
              go_wp2_with fail
              go_ret
              rw [HRES.out]
              exact ⟨rfl, HLT.out⟩
            | false =>
              have HLN0 : Hid (renameN M old s = match entN M p (parL s) with
                    | some t => if t = n then (0, M) else if wrongN M t (isDir M n) ≠ 0 then (wrongN M t (isDir M n), M) else movedN M (dropT M p (parL s) t) old s p n
                    | none => movedN M M old s p n) := Lib.hid (by rw [HLNc.out, hsd, if_neg (by decide)])
              rw [hsd] at x2 OX
              have HSD := Lib.hid hsd
              clear HLNc hsd HDX
              cases hen : entN M p (parL s) with
              | none =>
                have HEN := Lib.hid hen
                rw [hen] at HLN0
                have HLN : Hid (renameN M old s = movedN M M old s p n) := Lib.hid HLN0.out
                clear hen HLN0
                have hTW := HT.out.below HBA.out
                have hnb := hTW.node p bp nd HPP.out HM.out
                rw [HEE.out] at hnb
                have m1 := cell_blk_some hnb (i := 1) rfl
                have x0 := cell_blk_some OX.out (i := 0) rfl
                have hlk : (Instr.lookup 65 (.map (some eb)) (.string (parL s)) false).run Try.prog wx = .ok (.pointer none) wx := by
                  obtain ⟨eb2, he2, hlk2⟩ := hTW.look HM.out HND.out (parL s)
                  obtain rfl : eb = eb2 := Option.some.inj (HEE.out.symm.trans he2)
                  rw [hlk2, HEN.out]
                  rfl

                clear hTW hnb
                have heq := fun w => run_eql_nil_left (P := Try.prog) w ⟨bn, 0, none⟩ Try.underlying64
                have HBR : Hid (Below w.heap.size w wx.drew) := Lib.hid (below_drewN HBA.out 1)
                have OXR : Hid (wx.drew.heap[xb]? = _) := Lib.hid (show wx.drew.heap[xb]? = _ from OX.out)
                have HDX := Lib.hid (dir_any (HT.out.below HBR.out) HI.out)
                rw [HPN.out, HDN.out] at HDX
                unfold nptr at HDX
                have HML : Hid ((isDir M n && decide (255 < longN (parN s ++ [parL s]) + deepN M n)) = false) := Lib.hid (by rw [HDN.out]; rfl)
                have HDQ : Hid (∀ w', Below wx.heap.size wx w' → Calls Try.prog 32 #[.pointer (some ⟨bn, 0, none⟩)] w' fun e w'' => e = .returned (.bool false) ∧ w'' = w') := Lib.hid fun w' hb => by
                  have := dir_any ((HT.out.below HBA.out).below hb) HI.out
                  rw [HPN.out, HDN.out] at this
                  exact this
                clear HDX
                go_wp2_with fail
                go_quiet ((go_at_call 32; exact Calls.quiet_of_same (HDQ.out _ (below_drewN (Below.refl _ wx) _))))
                have HBY := Lib.hid (below_drewN HBA.out nq)
                have OXY := Lib.hid (show (wx.drewN nq).heap[xb]? = _ from OX.out)
                clear HDQ
                generalize wx.drewN nq = wy at *
                have hTW := HT.out.below HBY.out
                have hnb := hTW.node p bp nd HPP.out HM.out
                rw [HEE.out] at hnb
                have m1 := cell_blk_some hnb (i := 1) rfl
                have x0 := cell_blk_some OXY.out (i := 0) rfl
                have hlk : (Instr.lookup 65 (.map (some eb)) (.string (parL s)) false).run Try.prog wy = .ok (.pointer none) wy := by
                  obtain ⟨eb2, he2, hlk2⟩ := hTW.look HM.out HND.out (parL s)
                  obtain rfl : eb = eb2 := Option.some.inj (HEE.out.symm.trans he2)
                  rw [hlk2, HEN.out]
                  rfl

                clear hTW hnb
                have HBD := Lib.hid HBY.out
                have OXD := Lib.hid OXY.out
                have HTC := Lib.hid (HT.out.below HBD.out)
                have HFC : Hid (∀ x, TFoot tb nb P E V x → TFoot tb nb P E V x) := Lib.hid fun _ h => h
                have HFRC : Hid (Fr F w wy) := Lib.hid (Fr.below HBD.out)
                have HSC : Hid (w.heap.size ≤ wy.heap.size) := Lib.hid HBD.out.size
                have HPNC := Lib.hid HPN.out
                have HPPC := Lib.hid HPP.out
                have OXC := Lib.hid OXD.out
                have HMV := Lib.hid (MvOk.facts (M1 := M) ⟨HLF.out, HEFO.out, HLD.out, HDD.out, HPRE.out, .inl ⟨HEN.out, rfl⟩⟩ HG.out)
                have HRES : Hid (renameN M old s = (0, moveM M f (parL old) p (parL s) n)) := Lib.hid (by
                  rw [HLN.out]; unfold movedN; rw [HML.out, if_neg (by decide), HMV.out.2.1])
                have x1 := cell_blk_some OXD.out (i := 1) rfl
                have hdm := move_del HTC.out HMV.out.2.2.1
                obtain ⟨bf, -, -, hbf, -⟩ := hdm
                have hpv := place_good (P := P) HE.out HMV.out.2.1 (ent_dir HMV.out.2.2.1)
                rw [hbf] at hpv
                have HBF := Lib.hid hbf
                have HP4 := Lib.hid (place_any HTC.out old HOZ.out)
                rw [hpv] at HP4
                clear hpv hbf
                unfold nptr placeA at HP4
                go_wp2_with fail
                refine HP4.out.mono ?_
                rintro e wd ⟨rfl, hbd⟩
                clear hlk m1 x0 x1
                have OXE : Hid ((wd.alloc (.cells #[.pointer (some ⟨bf, 0, none⟩), .string (parL old), .bool (splitD old), .int .i64 (longN (parN old ++ [parL old]))] 81)).heap[wd.heap.size]? = some (.cells #[.pointer (some ⟨bf, 0, none⟩), .string (parL old), .bool (splitD old), .int .i64 (longN (parN old ++ [parL old]))] 81 (0, 0))) := Lib.hid (blk_new rfl)
                have HBE := Lib.hid (below_call hbd (show Below wd.heap.size wd (wd.alloc (.cells #[.pointer (some ⟨bf, 0, none⟩), .string (parL old), .bool (splitD old), .int .i64 (longN (parN old ++ [parL old]))] 81)) from (Below.refl _ wd).alloc (Nat.le_refl _) _) (Nat.le_refl _))
                have HXD : Hid (wy.heap.size ≤ wd.heap.size) := Lib.hid hbd.size
                clear hbd HP4
                obtain ⟨wE, hwE⟩ : ∃ wE, wE = wd.alloc (.cells #[.pointer (some ⟨bf, 0, none⟩), .string (parL old), .bool (splitD old), .int .i64 (longN (parN old ++ [parL old]))] 81) := ⟨_, rfl⟩
                obtain ⟨xd, hxd⟩ : ∃ xd, xd = wd.heap.size := ⟨_, rfl⟩
                rw [← hwE, ← hxd] at OXE
                rw [← hwE] at HBE
                rw [← hxd] at HXD
                have HWE := Lib.hid hwE; have HXDE := Lib.hid hxd
                clear hwE hxd
                go_wp2_with fail
                rw [← HWE.out, ← HXDE.out]
                obtain ⟨bf2, ef, ndf, hbf2, hnf, hef, ⟨ess, cc, hess⟩, w9, hdel, h9, hf9⟩ := move_del (HTC.out.below HBE.out) HMV.out.2.2.1
                obtain rfl : bf2 = bf := Option.some.inj (hbf2.symm.trans HBF.out)
                have x0 := cell_blk_some OXE.out (i := 0) rfl
                have x1 := cell_blk_some OXE.out (i := 1) rfl
                have m1 := cell_blk_some hnf (i := 1) rfl
                have hxbE : wE.heap[xb]? = _ := (HBE.out.block _ (blk_lt OXC.out)).trans OXC.out
                have OX9 := Lib.hid ((hf9.block xb (blk_lt hxbE) (fun e => by rw [e, hess] at hxbE; injection hxbE with hxbE; cases hxbE)).trans hxbE)
                have H9 := Lib.hid h9; have HF9 := Lib.hid hf9; have HEFE := Lib.hid hef
                clear hbf2 hnf hef hess h9 hf9 hxbE
                go_still_tail 7, (by kernel_rfl)
                change wpList _ _ _ _ _ wE.drew
                have hd9 : isDir (setE M f (updE (entN M f) (parL old) none)) p = true := by
                  obtain ⟨_, _, q1, q2⟩ := isDir_there (ent_dir HMV.out.2.2.1)
                  rw [isDir_setE q1 q2]; exact HMV.out.2.2.2.2.1
                have hn9 : (setE M f (updE (entN M f) (parL old) none) n).isSome = true := by
                  obtain ⟨_, _, q1, q2⟩ := isDir_there (ent_dir HMV.out.2.2.1)
                  rw [some_setE q1]; exact HMV.out.1.1.ok.ent _ _ _ HMV.out.2.2.1
                obtain ⟨bp2, ep, ndp, hbp2, hnp, hep, w10, hput, h10, hf10⟩ := move_put (en := parL s) H9.out hd9 hn9 HPNC.out
                obtain rfl : bp2 = bp := Option.some.inj (hbp2.symm.trans HPPC.out)
                have y0 := cell_blk_some OX9.out (i := 0) rfl
                have n1 := cell_blk_some hnp (i := 1) rfl
                have H10 := Lib.hid h10; have HF10 := Lib.hid hf10; have HEPE := Lib.hid hep
                clear hd9 hn9 hbp2 hnp hep h10 hf10 x0 x1 m1
                go_wp2_with fail
                go_ret
                rw [HRES.out]
                refine ⟨rfl, ⟨_, _, _, _, H10.out, fun x hx => .inl (HFT.out x (HFC.out x hx))⟩, ?_⟩
                exact (((HFRC.out.trans (Fr.below HBE.out)).trans (HF9.out.tell fun x hx => HFT.out x (HFC.out x (.inr (.inr (.inr (.inl ⟨f, by rw [hx]; exact HEFE.out⟩))))))).trans (HF10.out.tell fun x hx => HFT.out x (HFC.out x (.inr (.inr (.inr (.inl ⟨p, by rw [hx]; exact HEPE.out⟩)))))))
              | some t =>
                have HEN := Lib.hid hen
                rw [hen] at HLN0
                have HLN1 : Hid (renameN M old s = if t = n then (0, M) else if wrongN M t (isDir M n) ≠ 0 then (wrongN M t (isDir M n), M) else movedN M (dropT M p (parL s) t) old s p n) := Lib.hid HLN0.out
                have hts := HG.out.1.ok.ent p (parL s) t hen
                obtain ⟨ndt, hmt⟩ := Option.isSome_iff_exists.1 hts
                obtain ⟨bt, hbt, _⟩ := HT.out.at_ hmt
                have HMT := Lib.hid hmt; have HPTT := Lib.hid hbt
                clear hen HLN0 hts hmt hbt
                have hTW := HT.out.below HBA.out
                have hnb := hTW.node p bp nd HPP.out HM.out
                rw [HEE.out] at hnb
                have m1 := cell_blk_some hnb (i := 1) rfl
                have x0 := cell_blk_some OX.out (i := 0) rfl
                have hlk : (Instr.lookup 65 (.map (some eb)) (.string (parL s)) false).run Try.prog wx = .ok (.pointer (some ⟨bt, 0, none⟩)) wx := by
                  obtain ⟨eb2, he2, hlk2⟩ := hTW.look HM.out HND.out (parL s)
                  obtain rfl : eb = eb2 := Option.some.inj (HEE.out.symm.trans he2)
                  rw [hlk2, HEN.out]
                  show Result.ok (nptr (P t)) _ = _
                  rw [HPTT.out]; rfl
                clear hTW hnb
                have HBB := Lib.hid HBA.out
                have OXB := Lib.hid OX.out
                obtain ⟨jn, hjn, hjs⟩ := Option.map_eq_some_iff.1 node_info
                by_cases htn : t = n
                · subst htn
                  obtain rfl : bt = bn := Option.some.inj (HPTT.out.symm.trans HPN.out)
                  have heq := fun w => run_eql_ptr_same (P := Try.prog) w ⟨bt, 0, none⟩ Try.underlying64 hjn
                  have HRES : Hid (renameN M old s = (0, M)) := Lib.hid (by rw [HLN1.out, if_pos rfl])
                  have HLT := Lib.hid (TLeft.same HT.out HFT.out HBB.out)
                  go_wp2_with fail
                  go_ret
                  rw [HRES.out]
                  exact ⟨rfl, HLT.out⟩
                · have HTN := Lib.hid htn
                  have hnet : (⟨bt, 0, none⟩ : Addr) ≠ ⟨bn, 0, none⟩ := fun e => htn (HT.out.pin t n bt HPTT.out (by rw [HPN.out]; injection e with e; rw [e]))
                  obtain ⟨ndn, hmn⟩ := Option.isSome_iff_exists.1 HI.out
                  have heq := run_eql_ptr_other wx (a := ⟨bt, 0, none⟩) (b := ⟨bn, 0, none⟩) Try.underlying64 hjn (by simpa using hjs) hnet ((HT.out.below HBB.out).node t bt ndt HPTT.out HMT.out) ((HT.out.below HBB.out).node n bn ndn HPN.out hmn)
                  have HDX := Lib.hid (dir_any (HT.out.below HBB.out) HI.out)
                  rw [HPN.out, HDN.out] at HDX
                  have HA := Lib.hid (notFile_any (HT.out.below HBB.out) (i := t) (by rw [HMT.out]; rfl))
                  rw [HPTT.out] at HA
                  unfold nptr at HDX HA
                  have HLN2 : Hid (renameN M old s = if wrongN M t false ≠ 0 then (wrongN M t false, M) else movedN M (dropT M p (parL s) t) old s p n) := Lib.hid (by rw [HLN1.out, if_neg htn, HDN.out])
                  clear htn hnet hmn HLN1
                  go_wp2_with fail
                  refine HDX.out.mono ?_
                  rintro e wy ⟨rfl, rfl⟩
                  clear heq HDX hlk m1 x0
                  by_cases hw : wrongN M t false = 0
                  · have HLN : Hid (renameN M old s = movedN M (dropT M p (parL s) t) old s p n) := Lib.hid (by rw [HLN2.out, if_neg (by rw [hw]; simp)])
                    have HNOT := Lib.hid (wrong_none hw)
                    rw [hw] at HA
                    have HTP : Hid (t ≠ p) := Lib.hid fun e => by have := HNOT.out (parL s); rw [e, HEN.out] at this; cases this
                    have HT2 : Hid (t ≠ 2) := Lib.hid fun e => HG.out.1.noroot p (parL s) (by rw [HEN.out, e])
                    have hlk := HG.out.1.lk t (HG.out.1.ok.ent p (parL s) t HEN.out)
                    rw [lkN_of HMT.out] at hlk
                    have HTL : Hid (1 ≤ ndt.links ∧ ndt.links ≤ 100) := Lib.hid ⟨hlk.1, hlk.2.1⟩
                    have HT1 : Hid (ndt.links = 1 → ∀ r x, r ≠ t → entN M r x = some t → r = p ∧ x = parL s) := Lib.hid fun h1 r x _ hx => HG.out.1.one (by rw [lkN_of HMT.out]; exact h1) HEN.out hx
                    clear hw HLN2 hlk
                    go_wp2_with fail
                    refine HA.out.mono ?_
                    rintro e wx ⟨rfl, rfl⟩
                    clear HA
                    have HBR : Hid (Below w.heap.size w wx.drew) := Lib.hid (below_drewN HBB.out 1)
                    have OXR : Hid (wx.drew.heap[xb]? = _) := Lib.hid (show wx.drew.heap[xb]? = _ from OXB.out)
                    have HDX := Lib.hid (dir_any (HT.out.below HBR.out) HI.out)
                    rw [HPN.out, HDN.out] at HDX
                    unfold nptr at HDX
                    have HML : Hid ((isDir M n && decide (255 < longN (parN s ++ [parL s]) + deepN M n)) = false) := Lib.hid (by rw [HDN.out]; rfl)
                    have HDQ : Hid (∀ w', Below wx.heap.size wx w' → Calls Try.prog 32 #[.pointer (some ⟨bn, 0, none⟩)] w' fun e w'' => e = .returned (.bool false) ∧ w'' = w') := Lib.hid fun w' hb => by
                      have := dir_any ((HT.out.below HBB.out).below hb) HI.out
                      rw [HPN.out, HDN.out] at this
                      exact this
                    clear HDX
                    go_wp2_with fail
                    go_quiet ((go_at_call 32; exact Calls.quiet_of_same (HDQ.out _ (below_drewN (Below.refl _ wx) _))))
                    have HBY := Lib.hid (below_drewN HBB.out nq)
                    have OXY := Lib.hid (show (wx.drewN nq).heap[xb]? = _ from OXB.out)
                    clear HDQ
                    generalize wx.drewN nq = wy at *
                    have hTW := HT.out.below HBY.out
                    have hnb := hTW.node p bp nd HPP.out HM.out
                    rw [HEE.out] at hnb
                    have m1 := cell_blk_some hnb (i := 1) rfl
                    have x0 := cell_blk_some OXY.out (i := 0) rfl
                    have hlk : (Instr.lookup 65 (.map (some eb)) (.string (parL s)) false).run Try.prog wy = .ok (.pointer (some ⟨bt, 0, none⟩)) wy := by
                      obtain ⟨eb2, he2, hlk2⟩ := hTW.look HM.out HND.out (parL s)
                      obtain rfl : eb = eb2 := Option.some.inj (HEE.out.symm.trans he2)
                      rw [hlk2, HEN.out]
                      show Result.ok (nptr (P t)) _ = _
                      rw [HPTT.out]; rfl
                    clear hTW hnb
                    have HBD := Lib.hid HBY.out
                    have OXD := Lib.hid OXY.out
                    have x1 := cell_blk_some OXD.out (i := 1) rfl
                    have x2 := cell_blk_some OXD.out (i := 2) rfl
                    have x3 := cell_blk_some OXD.out (i := 3) rfl
                    have HDR := Lib.hid (drop_keep (ob := splitD s) (n := longN (parN s ++ [parL s])) (HT.out.below HBD.out) (F := TFoot tb nb P E V) (fun _ h => h) HM.out HFF.out HPP.out (s := parL s) (i := t) (by rw [← HEF.out]; exact HEN.out) HMT.out HTP.out HT2.out HTL.out HT1.out)
                    have HDT : Hid (dropT M p (parL s) t = dropM M p fq (parL s) t ndt) := Lib.hid (by unfold dropT; rw [HMT.out]; show dropM M p (entN M p) _ t ndt = _; rw [HEF.out])
                    rw [HSD.out] at HDR
                    unfold placeA at HDR
                    go_wp2_with fail
                    refine HDR.out.mono ?_
                    rintro e wc ⟨rfl, nb', P', E', V', hTC, hFC, hfrC, hPC⟩
                    rw [← HDT.out] at hTC
                    have HTC := Lib.hid hTC
                    have HFC := Lib.hid hFC
                    have HFRC : Hid (Fr F w wc) := Lib.hid ((Fr.below HBD.out).trans (hfrC.tell fun x hx => HFT.out x hx))
                    have HSC : Hid (w.heap.size ≤ wc.heap.size) := Lib.hid (Nat.le_trans HBD.out.size hfrC.size)
                    have HPNC : Hid (P' n = some bn) := Lib.hid ((hPC n (fun e => HTN.out e.symm)).trans HPN.out)
                    have HPPC : Hid (P' p = some bp) := Lib.hid ((hPC p (fun e => HTP.out e.symm)).trans HPP.out)
                    have OXC := Lib.hid ((hfrC.block xb (blk_lt OXD.out) (fun hx => absurd (HT.out.foot_lt' hx) (Nat.not_lt.2 HXW.out))).trans OXD.out)
                    clear hTC hFC hfrC hPC HDR HDT hlk m1 x0 x1 x2 x3
                    have HMV := Lib.hid (MvOk.facts (M1 := dropT M p (parL s) t) ⟨HLF.out, HEFO.out, HLD.out, HDD.out, HPRE.out, .inr ⟨t, HEN.out, HTN.out, HNOT.out, rfl⟩⟩ HG.out)
                    have HRES : Hid (renameN M old s = (0, moveM (dropT M p (parL s) t) f (parL old) p (parL s) n)) := Lib.hid (by
                      rw [HLN.out]; unfold movedN; rw [HML.out, if_neg (by decide), HMV.out.2.1])
                    generalize dropT M p (parL s) t = M1 at *
                    have hdm := move_del HTC.out HMV.out.2.2.1
                    obtain ⟨bf, -, -, hbf, -⟩ := hdm
                    have hpv := place_good (P := P') HE.out HMV.out.2.1 (ent_dir HMV.out.2.2.1)
                    rw [hbf] at hpv
                    have HBF := Lib.hid hbf
                    have HP4 := Lib.hid (place_any HTC.out old HOZ.out)
                    rw [hpv] at HP4
                    clear hpv hbf
                    unfold nptr placeA at HP4
                    go_wp2_with fail
                    refine HP4.out.mono ?_
                    rintro e wd ⟨rfl, hbd⟩
                    have OXE : Hid ((wd.alloc (.cells #[.pointer (some ⟨bf, 0, none⟩), .string (parL old), .bool (splitD old), .int .i64 (longN (parN old ++ [parL old]))] 81)).heap[wd.heap.size]? = some (.cells #[.pointer (some ⟨bf, 0, none⟩), .string (parL old), .bool (splitD old), .int .i64 (longN (parN old ++ [parL old]))] 81 (0, 0))) := Lib.hid (blk_new rfl)
                    have HBE := Lib.hid (below_call hbd (show Below wd.heap.size wd (wd.alloc (.cells #[.pointer (some ⟨bf, 0, none⟩), .string (parL old), .bool (splitD old), .int .i64 (longN (parN old ++ [parL old]))] 81)) from (Below.refl _ wd).alloc (Nat.le_refl _) _) (Nat.le_refl _))
                    have HXD : Hid (wc.heap.size ≤ wd.heap.size) := Lib.hid hbd.size
                    clear hbd HP4
                    obtain ⟨wE, hwE⟩ : ∃ wE, wE = wd.alloc (.cells #[.pointer (some ⟨bf, 0, none⟩), .string (parL old), .bool (splitD old), .int .i64 (longN (parN old ++ [parL old]))] 81) := ⟨_, rfl⟩
                    obtain ⟨xd, hxd⟩ : ∃ xd, xd = wd.heap.size := ⟨_, rfl⟩
                    rw [← hwE, ← hxd] at OXE
                    rw [← hwE] at HBE
                    rw [← hxd] at HXD
                    have HWE := Lib.hid hwE; have HXDE := Lib.hid hxd
                    clear hwE hxd
                    go_wp2_with fail
                    rw [← HWE.out, ← HXDE.out]
                    obtain ⟨bf2, ef, ndf, hbf2, hnf, hef, ⟨ess, cc, hess⟩, w9, hdel, h9, hf9⟩ := move_del (HTC.out.below HBE.out) HMV.out.2.2.1
                    obtain rfl : bf2 = bf := Option.some.inj (hbf2.symm.trans HBF.out)
                    have x0 := cell_blk_some OXE.out (i := 0) rfl
                    have x1 := cell_blk_some OXE.out (i := 1) rfl
                    have m1 := cell_blk_some hnf (i := 1) rfl
                    have hxbE : wE.heap[xb]? = _ := (HBE.out.block _ (blk_lt OXC.out)).trans OXC.out
                    have OX9 := Lib.hid ((hf9.block xb (blk_lt hxbE) (fun e => by rw [e, hess] at hxbE; injection hxbE with hxbE; cases hxbE)).trans hxbE)
                    have H9 := Lib.hid h9; have HF9 := Lib.hid hf9; have HEFE := Lib.hid hef
                    clear hbf2 hnf hef hess h9 hf9 hxbE
                    go_still_tail 7, (by kernel_rfl)
                    change wpList _ _ _ _ _ wE.drew
                    have hd9 : isDir (setE M1 f (updE (entN M1 f) (parL old) none)) p = true := by
                      obtain ⟨_, _, q1, q2⟩ := isDir_there (ent_dir HMV.out.2.2.1)
                      rw [isDir_setE q1 q2]; exact HMV.out.2.2.2.2.1
                    have hn9 : (setE M1 f (updE (entN M1 f) (parL old) none) n).isSome = true := by
                      obtain ⟨_, _, q1, q2⟩ := isDir_there (ent_dir HMV.out.2.2.1)
                      rw [some_setE q1]; exact HMV.out.1.1.ok.ent _ _ _ HMV.out.2.2.1
                    obtain ⟨bp2, ep, ndp, hbp2, hnp, hep, w10, hput, h10, hf10⟩ := move_put (en := parL s) H9.out hd9 hn9 HPNC.out
                    obtain rfl : bp2 = bp := Option.some.inj (hbp2.symm.trans HPPC.out)
                    have y0 := cell_blk_some OX9.out (i := 0) rfl
                    have n1 := cell_blk_some hnp (i := 1) rfl
                    have H10 := Lib.hid h10; have HF10 := Lib.hid hf10; have HEPE := Lib.hid hep
                    clear hd9 hn9 hbp2 hnp hep h10 hf10 x0 x1 m1
                    go_wp2_with fail
                    go_ret
                    rw [HRES.out]
                    refine ⟨rfl, ⟨_, _, _, _, H10.out, fun x hx => .inl (HFT.out x (HFC.out x hx))⟩, ?_⟩
                    exact (((HFRC.out.trans (Fr.below HBE.out)).trans (HF9.out.tell fun x hx => HFT.out x (HFC.out x (.inr (.inr (.inr (.inl ⟨f, by rw [hx]; exact HEFE.out⟩))))))).trans (HF10.out.tell fun x hx => HFT.out x (HFC.out x (.inr (.inr (.inr (.inl ⟨p, by rw [hx]; exact HEPE.out⟩)))))))
                  · have HRES : Hid (renameN M old s = (wrongN M t false, M)) := Lib.hid (by rw [HLN2.out, if_pos hw])
                    have HLT := Lib.hid (TLeft.same HT.out HFT.out HBB.out)
                    have hc2 : (wrongN M t false != 0) = true := by simp [hw]
                    generalize wrongN M t false = cw at *
                    clear hw HLN2
                    go_wp2_with fail
                    refine HA.out.mono ?_
                    rintro e wx ⟨rfl, rfl⟩
                    clear HA
                    go_wp2_with fail
                    go_ret
                    rw [HRES.out]
                    exact ⟨rfl, HLT.out⟩
          | true =>
            have HDN := Lib.hid hdn
            rw [hdn] at HDX
            refine HDX.out.mono ?_
            rintro e wx ⟨rfl, rfl⟩
            clear HDX
            have HLNc : Hid (renameN M old s = if isPre (parN old ++ [parL old]) (parN s) then (22, M) else match entN M p (parL s) with
                  | some t => if t = n then (0, M) else if wrongN M t (isDir M n) ≠ 0 then (wrongN M t (isDir M n), M) else movedN M (dropT M p (parL s) t) old s p n
                  | none => movedN M M old s p n) := Lib.hid (by rw [HLNb.out, hdn]; simp only [Bool.true_and, Bool.not_true, Bool.and_false]; rfl)
            clear hdn HLNb
            have OW := Lib.hid (own_frame HO1d.out (S := fun _ => False) ((Fr.refl _ wx).alloc (.cells #[.string (parL old)] 9)) fun _ _ => id)
            have hzz : w.heap.size ≤ (wx.alloc (.cells #[.string (parL old)] 9)).heap.size := by have := HBA.out.size; simp; omega
            have HO2e := Lib.hid (own_frame HO2d.out (S := fun _ => False) ((Fr.refl _ wx).alloc (.cells #[.string (parL old)] 9)) fun _ _ => id)
            have HBe := Lib.hid (HBA.out.alloc HBA.out.size (.cells #[.string (parL old)] 9))
            have OXe := Lib.hid (((Below.refl wx.heap.size wx).alloc (Nat.le_refl _) (.cells #[.string (parL old)] 9)).block _ (blk_lt OX.out) |>.trans OX.out)
            go_wp2_with (refine wpList_append_gg (by rfl) (.tmp 60) (.tmp 62) (by rfl) elStr (by rfl) OW.out (by rfl) (srcS wx (parL old)) (by unfold maxLen; have := parN_count old; omega) (by have := parN_count old; omega) hzz ?_)
            intro v5 w6 ho5 hf5 hv5
            have hown5 : w6.ownsRow w.heap.size 9 1 v5 (parN old ++ [parL old]).length ((parN old ++ [parL old]).map Value.string) := by
              rw [List.length_append, List.length_singleton, List.map_append]
              exact ho5
            have hst5 := StrsAt.own hown5
            have hst2 := StrsAt.own (own_frame HO2e.out hf5 fun b h2 h1 => HNEQ.out b h2 h1)
            have HB6 := Lib.hid (HBe.out.trans (hf5.toBelow hzz fun x hx => (HO1d.out.lt _ hx).1))
            have OX6 := Lib.hid ((hf5.block xb (blk_lt OXe.out) (fun h1 => absurd (HX1.out xb h1) (Nat.lt_irrefl _))).trans OXe.out)
            obtain ⟨ga, gc, rfl⟩ := own_shape ho5
            have HWI := Lib.hid (within_any hst5 hst2 (by rw [List.length_append, List.length_singleton]; have := parN_count old; omega) (by have := parN_count s; omega))
            clear ho5 hf5 hv5 hown5 hst5 hst2 OW HO1d HO2d HO2e HX1 HNEQ hzz HBe OXe HBA OX
            go_wp2_with fail
            refine HWI.out.mono ?_
            rintro e w7 ⟨rfl, hb7⟩
            have HB7 := Lib.hid (below_call HB6.out hb7 (Nat.le_refl _))
            have OX7 := Lib.hid ((hb7.block _ (blk_lt OX6.out)).trans OX6.out)
            clear hb7 HWI HB6 OX6
            cases hpr : isPre (parN old ++ [parL old]) (parN s) with
            | true =>
              have HRES : Hid (renameN M old s = (22, M)) := Lib.hid (by rw [HLNc.out, hpr, if_pos rfl])
              have HLT := Lib.hid (TLeft.same HT.out HFT.out HB7.out)
              clear HLNc hpr
              go_wp2_with fail
              go_ret
              rw [HRES.out]
              exact ⟨rfl, HLT.out⟩
            | false =>
              have HLN0 : Hid (renameN M old s = match entN M p (parL s) with
                    | some t => if t = n then (0, M) else if wrongN M t (isDir M n) ≠ 0 then (wrongN M t (isDir M n), M) else movedN M (dropT M p (parL s) t) old s p n
                    | none => movedN M M old s p n) := Lib.hid (by rw [HLNc.out, hpr, if_neg (by decide)])
              have HPRE : Hid ((isDir M n && isPre (parN old ++ [parL old]) (parN s)) = false) := Lib.hid (by rw [hpr, Bool.and_false])
              have x2 := cell_blk_some OX7.out (i := 2) rfl
              clear HLNc hpr
              cases hsd : splitD s with
              | true =>
                have HDX := Lib.hid (dir_any (HT.out.below HB7.out) HI.out)
                rw [HPN.out, HDN.out] at HDX
                unfold nptr at HDX
                rw [hsd] at x2 OX7
                have HSD := Lib.hid hsd
                clear hsd
                go_wp2_with fail
                refine HDX.out.mono ?_
                rintro e wx2 ⟨rfl, rfl⟩
                clear HDX
                cases hen : entN M p (parL s) with
                | none =>
                  have HEN := Lib.hid hen
                  rw [hen] at HLN0
                  have HLN : Hid (renameN M old s = movedN M M old s p n) := Lib.hid HLN0.out
                  clear hen HLN0
                  have hTW := HT.out.below HB7.out
                  have hnb := hTW.node p bp nd HPP.out HM.out
                  rw [HEE.out] at hnb
                  have m1 := cell_blk_some hnb (i := 1) rfl
                  have x0 := cell_blk_some OX7.out (i := 0) rfl
                  have hlk : (Instr.lookup 65 (.map (some eb)) (.string (parL s)) false).run Try.prog wx2 = .ok (.pointer none) wx2 := by
                    obtain ⟨eb2, he2, hlk2⟩ := hTW.look HM.out HND.out (parL s)
                    obtain rfl : eb = eb2 := Option.some.inj (HEE.out.symm.trans he2)
                    rw [hlk2, HEN.out]
                    rfl

                  clear hTW hnb
                  have heq := fun w => run_eql_nil_left (P := Try.prog) w ⟨bn, 0, none⟩ Try.underlying64
                  have HBR : Hid (Below w.heap.size w wx2.drew) := Lib.hid (below_drewN HB7.out 1)
                  have OXR : Hid (wx2.drew.heap[xb]? = _) := Lib.hid (show wx2.drew.heap[xb]? = _ from OX7.out)
                  have HDX := Lib.hid (dir_any (HT.out.below HBR.out) HI.out)
                  rw [HPN.out, HDN.out] at HDX
                  unfold nptr at HDX
                  have x3 := cell_blk_some OXR.out (i := 3) rfl
                  have HDE : Hid (Calls Try.prog 43 #[nptr (P n)] wx2.drew fun e w' => e = .returned (.int .i64 (deepN M n)) ∧ Below wx2.drew.heap.size wx2.drew w') := Lib.hid ((deep_any HG.out.1 HG.out.2 256 (parN old ++ [parL old]) n wx2.drew HPN2.out (by omega) (HT.out.below HBR.out)).mono fun e w' ⟨D, q1, q2, q3⟩ => ⟨by rw [q1, deepN_of q2], q3⟩)
                  rw [HPN.out] at HDE
                  unfold nptr at HDE
                  have HDB : Hid (0 ≤ deepN M n ∧ deepN M n ≤ 256) := Lib.hid (by
                    obtain ⟨D, hD⟩ := deep_exists HG.out.2 HPN2.out
                    rw [deepN_of hD]
                    exact hD.bd HG.out.2 HPN2.out)
                  have hlg := HLG.out
                  have hD := HDB.out
                  have hwr : IntKind.i64.wrap (longN (parN s ++ [parL s]) + deepN M n) = longN (parN s ++ [parL s]) + deepN M n := IntWalk.i64_in _ (by omega)
                  clear hlg hD
                  by_cases hlong : 255 < longN (parN s ++ [parL s]) + deepN M n
                  · have hq : decide (255 < longN (parN s ++ [parL s]) + deepN M n) = true := decide_eq_true hlong
                    have HRES : Hid (renameN M old s = (36, M)) := Lib.hid (by rw [HLN.out]; unfold movedN; rw [HDN.out, Bool.true_and, if_pos hq])
                    go_wp2_with fail
                    go_region_law
                      (first
                        | (go_simp; go_at_call 32
                           refine HDX.out.mono ?_
                           rintro e wy ⟨rfl, rfl⟩
                           dsimp only)
                        | (go_simp; go_at_call 43
                           refine HDE.out.mono ?_
                           rintro e wz ⟨rfl, hbz⟩
                           have HBZ := Lib.hid (below_call HBR.out hbz (Nat.le_refl _))
                           have HOXZ := Lib.hid ((hbz.block _ (blk_lt OXR.out)).trans OXR.out)
                           have x3z := cell_blk_some HOXZ.out (i := 3) rfl
                           clear hbz
                           dsimp only))
                    all_goals
                      have HLT := Lib.hid (TLeft.same HT.out HFT.out HBZ.out)
                      go_wp2_with fail
                      go_ret
                      rw [HRES.out]
                      exact ⟨rfl, HLT.out⟩
                  · have hq : decide (255 < longN (parN s ++ [parL s]) + deepN M n) = false := decide_eq_false hlong
                    have HML : Hid ((isDir M n && decide (255 < longN (parN s ++ [parL s]) + deepN M n)) = false) := Lib.hid (by rw [HDN.out, hq]; rfl)
                    go_wp2_with fail
                    go_region_law
                      (first
                        | (go_simp; go_at_call 32
                           refine HDX.out.mono ?_
                           rintro e wy ⟨rfl, rfl⟩
                           dsimp only)
                        | (go_simp; go_at_call 43
                           refine HDE.out.mono ?_
                           rintro e wz ⟨rfl, hbz⟩
                           have HBZ := Lib.hid (below_call HBR.out hbz (Nat.le_refl _))
                           have HOXZ := Lib.hid ((hbz.block _ (blk_lt OXR.out)).trans OXR.out)
                           have x3z := cell_blk_some HOXZ.out (i := 3) rfl
                           clear hbz
                           dsimp only))
                    all_goals
                      clear hlong hwr hq x3 x3z HDE HDX
                      have hTW := HT.out.below HBZ.out
                      have hnb := hTW.node p bp nd HPP.out HM.out
                      rw [HEE.out] at hnb
                      have m1 := cell_blk_some hnb (i := 1) rfl
                      have x0 := cell_blk_some HOXZ.out (i := 0) rfl
                      have hlk : (Instr.lookup 65 (.map (some eb)) (.string (parL s)) false).run Try.prog wz = .ok (.pointer none) wz := by
                        obtain ⟨eb2, he2, hlk2⟩ := hTW.look HM.out HND.out (parL s)
                        obtain rfl : eb = eb2 := Option.some.inj (HEE.out.symm.trans he2)
                        rw [hlk2, HEN.out]
                        rfl

                      clear hTW hnb
                      have HBD := Lib.hid HBZ.out
                      have OXD := Lib.hid HOXZ.out
                      have HTC := Lib.hid (HT.out.below HBD.out)
                      have HFC : Hid (∀ x, TFoot tb nb P E V x → TFoot tb nb P E V x) := Lib.hid fun _ h => h
                      have HFRC : Hid (Fr F w wz) := Lib.hid (Fr.below HBD.out)
                      have HSC : Hid (w.heap.size ≤ wz.heap.size) := Lib.hid HBD.out.size
                      have HPNC := Lib.hid HPN.out
                      have HPPC := Lib.hid HPP.out
                      have OXC := Lib.hid OXD.out
                      have HMV := Lib.hid (MvOk.facts (M1 := M) ⟨HLF.out, HEFO.out, HLD.out, HDD.out, HPRE.out, .inl ⟨HEN.out, rfl⟩⟩ HG.out)
                      have HRES : Hid (renameN M old s = (0, moveM M f (parL old) p (parL s) n)) := Lib.hid (by
                        rw [HLN.out]; unfold movedN; rw [HML.out, if_neg (by decide), HMV.out.2.1])
                      have x1 := cell_blk_some OXD.out (i := 1) rfl
                      have hdm := move_del HTC.out HMV.out.2.2.1
                      obtain ⟨bf, -, -, hbf, -⟩ := hdm
                      have hpv := place_good (P := P) HE.out HMV.out.2.1 (ent_dir HMV.out.2.2.1)
                      rw [hbf] at hpv
                      have HBF := Lib.hid hbf
                      have HP4 := Lib.hid (place_any HTC.out old HOZ.out)
                      rw [hpv] at HP4
                      clear hpv hbf
                      unfold nptr placeA at HP4
                      go_wp2_with fail
                      refine HP4.out.mono ?_
                      rintro e wd ⟨rfl, hbd⟩
                      clear hlk m1 x0 x1
                      have OXE : Hid ((wd.alloc (.cells #[.pointer (some ⟨bf, 0, none⟩), .string (parL old), .bool (splitD old), .int .i64 (longN (parN old ++ [parL old]))] 81)).heap[wd.heap.size]? = some (.cells #[.pointer (some ⟨bf, 0, none⟩), .string (parL old), .bool (splitD old), .int .i64 (longN (parN old ++ [parL old]))] 81 (0, 0))) := Lib.hid (blk_new rfl)
                      have HBE := Lib.hid (below_call hbd (show Below wd.heap.size wd (wd.alloc (.cells #[.pointer (some ⟨bf, 0, none⟩), .string (parL old), .bool (splitD old), .int .i64 (longN (parN old ++ [parL old]))] 81)) from (Below.refl _ wd).alloc (Nat.le_refl _) _) (Nat.le_refl _))
                      have HXD : Hid (wz.heap.size ≤ wd.heap.size) := Lib.hid hbd.size
                      clear hbd HP4
                      obtain ⟨wE, hwE⟩ : ∃ wE, wE = wd.alloc (.cells #[.pointer (some ⟨bf, 0, none⟩), .string (parL old), .bool (splitD old), .int .i64 (longN (parN old ++ [parL old]))] 81) := ⟨_, rfl⟩
                      obtain ⟨xd, hxd⟩ : ∃ xd, xd = wd.heap.size := ⟨_, rfl⟩
                      rw [← hwE, ← hxd] at OXE
                      rw [← hwE] at HBE
                      rw [← hxd] at HXD
                      have HWE := Lib.hid hwE; have HXDE := Lib.hid hxd
                      clear hwE hxd
                      go_wp2_with fail
                      rw [← HWE.out, ← HXDE.out]
                      obtain ⟨bf2, ef, ndf, hbf2, hnf, hef, ⟨ess, cc, hess⟩, w9, hdel, h9, hf9⟩ := move_del (HTC.out.below HBE.out) HMV.out.2.2.1
                      obtain rfl : bf2 = bf := Option.some.inj (hbf2.symm.trans HBF.out)
                      have x0 := cell_blk_some OXE.out (i := 0) rfl
                      have x1 := cell_blk_some OXE.out (i := 1) rfl
                      have m1 := cell_blk_some hnf (i := 1) rfl
                      have hxbE : wE.heap[xb]? = _ := (HBE.out.block _ (blk_lt OXC.out)).trans OXC.out
                      have OX9 := Lib.hid ((hf9.block xb (blk_lt hxbE) (fun e => by rw [e, hess] at hxbE; injection hxbE with hxbE; cases hxbE)).trans hxbE)
                      have H9 := Lib.hid h9; have HF9 := Lib.hid hf9; have HEFE := Lib.hid hef
                      clear hbf2 hnf hef hess h9 hf9 hxbE
                      go_still_tail 7, (by kernel_rfl)
                      change wpList _ _ _ _ _ wE.drew
                      have hd9 : isDir (setE M f (updE (entN M f) (parL old) none)) p = true := by
                        obtain ⟨_, _, q1, q2⟩ := isDir_there (ent_dir HMV.out.2.2.1)
                        rw [isDir_setE q1 q2]; exact HMV.out.2.2.2.2.1
                      have hn9 : (setE M f (updE (entN M f) (parL old) none) n).isSome = true := by
                        obtain ⟨_, _, q1, q2⟩ := isDir_there (ent_dir HMV.out.2.2.1)
                        rw [some_setE q1]; exact HMV.out.1.1.ok.ent _ _ _ HMV.out.2.2.1
                      obtain ⟨bp2, ep, ndp, hbp2, hnp, hep, w10, hput, h10, hf10⟩ := move_put (en := parL s) H9.out hd9 hn9 HPNC.out
                      obtain rfl : bp2 = bp := Option.some.inj (hbp2.symm.trans HPPC.out)
                      have y0 := cell_blk_some OX9.out (i := 0) rfl
                      have n1 := cell_blk_some hnp (i := 1) rfl
                      have H10 := Lib.hid h10; have HF10 := Lib.hid hf10; have HEPE := Lib.hid hep
                      clear hd9 hn9 hbp2 hnp hep h10 hf10 x0 x1 m1
                      go_wp2_with fail
                      go_ret
                      rw [HRES.out]
                      refine ⟨rfl, ⟨_, _, _, _, H10.out, fun x hx => .inl (HFT.out x (HFC.out x hx))⟩, ?_⟩
                      exact (((HFRC.out.trans (Fr.below HBE.out)).trans (HF9.out.tell fun x hx => HFT.out x (HFC.out x (.inr (.inr (.inr (.inl ⟨f, by rw [hx]; exact HEFE.out⟩))))))).trans (HF10.out.tell fun x hx => HFT.out x (HFC.out x (.inr (.inr (.inr (.inl ⟨p, by rw [hx]; exact HEPE.out⟩)))))))
                | some t =>
                  have HEN := Lib.hid hen
                  rw [hen] at HLN0
                  have HLN1 : Hid (renameN M old s = if t = n then (0, M) else if wrongN M t (isDir M n) ≠ 0 then (wrongN M t (isDir M n), M) else movedN M (dropT M p (parL s) t) old s p n) := Lib.hid HLN0.out
                  have hts := HG.out.1.ok.ent p (parL s) t hen
                  obtain ⟨ndt, hmt⟩ := Option.isSome_iff_exists.1 hts
                  obtain ⟨bt, hbt, _⟩ := HT.out.at_ hmt
                  have HMT := Lib.hid hmt; have HPTT := Lib.hid hbt
                  clear hen HLN0 hts hmt hbt
                  have hTW := HT.out.below HB7.out
                  have hnb := hTW.node p bp nd HPP.out HM.out
                  rw [HEE.out] at hnb
                  have m1 := cell_blk_some hnb (i := 1) rfl
                  have x0 := cell_blk_some OX7.out (i := 0) rfl
                  have hlk : (Instr.lookup 65 (.map (some eb)) (.string (parL s)) false).run Try.prog wx2 = .ok (.pointer (some ⟨bt, 0, none⟩)) wx2 := by
                    obtain ⟨eb2, he2, hlk2⟩ := hTW.look HM.out HND.out (parL s)
                    obtain rfl : eb = eb2 := Option.some.inj (HEE.out.symm.trans he2)
                    rw [hlk2, HEN.out]
                    show Result.ok (nptr (P t)) _ = _
                    rw [HPTT.out]; rfl
                  clear hTW hnb
                  have HBB := Lib.hid HB7.out
                  have OXB := Lib.hid OX7.out
                  obtain ⟨jn, hjn, hjs⟩ := Option.map_eq_some_iff.1 node_info
                  by_cases htn : t = n
                  · subst htn
                    obtain rfl : bt = bn := Option.some.inj (HPTT.out.symm.trans HPN.out)
                    have heq := fun w => run_eql_ptr_same (P := Try.prog) w ⟨bt, 0, none⟩ Try.underlying64 hjn
                    have HRES : Hid (renameN M old s = (0, M)) := Lib.hid (by rw [HLN1.out, if_pos rfl])
                    have HLT := Lib.hid (TLeft.same HT.out HFT.out HBB.out)
                    go_wp2_with fail
                    go_ret
                    rw [HRES.out]
                    exact ⟨rfl, HLT.out⟩
                  · have HTN := Lib.hid htn
                    have hnet : (⟨bt, 0, none⟩ : Addr) ≠ ⟨bn, 0, none⟩ := fun e => htn (HT.out.pin t n bt HPTT.out (by rw [HPN.out]; injection e with e; rw [e]))
                    obtain ⟨ndn, hmn⟩ := Option.isSome_iff_exists.1 HI.out
                    have heq := run_eql_ptr_other wx2 (a := ⟨bt, 0, none⟩) (b := ⟨bn, 0, none⟩) Try.underlying64 hjn (by simpa using hjs) hnet ((HT.out.below HBB.out).node t bt ndt HPTT.out HMT.out) ((HT.out.below HBB.out).node n bn ndn HPN.out hmn)
                    have HDX := Lib.hid (dir_any (HT.out.below HBB.out) HI.out)
                    rw [HPN.out, HDN.out] at HDX
                    have HA := Lib.hid (notEmpty_any (HT.out.below HBB.out) (i := t) (by rw [HMT.out]; rfl))
                    rw [HPTT.out] at HA
                    unfold nptr at HDX HA
                    have HLN2 : Hid (renameN M old s = if wrongN M t true ≠ 0 then (wrongN M t true, M) else movedN M (dropT M p (parL s) t) old s p n) := Lib.hid (by rw [HLN1.out, if_neg htn, HDN.out])
                    clear htn hnet hmn HLN1
                    go_wp2_with fail
                    refine HDX.out.mono ?_
                    rintro e wy ⟨rfl, rfl⟩
                    clear heq HDX hlk m1 x0
                    by_cases hw : wrongN M t true = 0
                    · have HLN : Hid (renameN M old s = movedN M (dropT M p (parL s) t) old s p n) := Lib.hid (by rw [HLN2.out, if_neg (by rw [hw]; simp)])
                      have HNOT := Lib.hid (wrong_none hw)
                      rw [hw] at HA
                      have HTP : Hid (t ≠ p) := Lib.hid fun e => by have := HNOT.out (parL s); rw [e, HEN.out] at this; cases this
                      have HT2 : Hid (t ≠ 2) := Lib.hid fun e => HG.out.1.noroot p (parL s) (by rw [HEN.out, e])
                      have hlk := HG.out.1.lk t (HG.out.1.ok.ent p (parL s) t HEN.out)
                      rw [lkN_of HMT.out] at hlk
                      have HTL : Hid (1 ≤ ndt.links ∧ ndt.links ≤ 100) := Lib.hid ⟨hlk.1, hlk.2.1⟩
                      have HT1 : Hid (ndt.links = 1 → ∀ r x, r ≠ t → entN M r x = some t → r = p ∧ x = parL s) := Lib.hid fun h1 r x _ hx => HG.out.1.one (by rw [lkN_of HMT.out]; exact h1) HEN.out hx
                      clear hw HLN2 hlk
                      go_wp2_with fail
                      refine HA.out.mono ?_
                      rintro e wx ⟨rfl, rfl⟩
                      clear HA
                      have HBR : Hid (Below w.heap.size w wx.drew) := Lib.hid (below_drewN HBB.out 1)
                      have OXR : Hid (wx.drew.heap[xb]? = _) := Lib.hid (show wx.drew.heap[xb]? = _ from OXB.out)
                      have HDX := Lib.hid (dir_any (HT.out.below HBR.out) HI.out)
                      rw [HPN.out, HDN.out] at HDX
                      unfold nptr at HDX
                      have x3 := cell_blk_some OXR.out (i := 3) rfl
                      have HDE : Hid (Calls Try.prog 43 #[nptr (P n)] wx.drew fun e w' => e = .returned (.int .i64 (deepN M n)) ∧ Below wx.drew.heap.size wx.drew w') := Lib.hid ((deep_any HG.out.1 HG.out.2 256 (parN old ++ [parL old]) n wx.drew HPN2.out (by omega) (HT.out.below HBR.out)).mono fun e w' ⟨D, q1, q2, q3⟩ => ⟨by rw [q1, deepN_of q2], q3⟩)
                      rw [HPN.out] at HDE
                      unfold nptr at HDE
                      have HDB : Hid (0 ≤ deepN M n ∧ deepN M n ≤ 256) := Lib.hid (by
                        obtain ⟨D, hD⟩ := deep_exists HG.out.2 HPN2.out
                        rw [deepN_of hD]
                        exact hD.bd HG.out.2 HPN2.out)
                      have hlg := HLG.out
                      have hD := HDB.out
                      have hwr : IntKind.i64.wrap (longN (parN s ++ [parL s]) + deepN M n) = longN (parN s ++ [parL s]) + deepN M n := IntWalk.i64_in _ (by omega)
                      clear hlg hD
                      by_cases hlong : 255 < longN (parN s ++ [parL s]) + deepN M n
                      · have hq : decide (255 < longN (parN s ++ [parL s]) + deepN M n) = true := decide_eq_true hlong
                        have HRES : Hid (renameN M old s = (36, M)) := Lib.hid (by rw [HLN.out]; unfold movedN; rw [HDN.out, Bool.true_and, if_pos hq])
                        go_wp2_with fail
                        go_region_law
                          (first
                            | (go_simp; go_at_call 32
                               refine HDX.out.mono ?_
                               rintro e wy ⟨rfl, rfl⟩
                               dsimp only)
                            | (go_simp; go_at_call 43
                               refine HDE.out.mono ?_
                               rintro e wz ⟨rfl, hbz⟩
                               have HBZ := Lib.hid (below_call HBR.out hbz (Nat.le_refl _))
                               have HOXZ := Lib.hid ((hbz.block _ (blk_lt OXR.out)).trans OXR.out)
                               have x3z := cell_blk_some HOXZ.out (i := 3) rfl
                               clear hbz
                               dsimp only))
                        all_goals
                          have HLT := Lib.hid (TLeft.same HT.out HFT.out HBZ.out)
                          go_wp2_with fail
                          go_ret
                          rw [HRES.out]
                          exact ⟨rfl, HLT.out⟩
                      · have hq : decide (255 < longN (parN s ++ [parL s]) + deepN M n) = false := decide_eq_false hlong
                        have HML : Hid ((isDir M n && decide (255 < longN (parN s ++ [parL s]) + deepN M n)) = false) := Lib.hid (by rw [HDN.out, hq]; rfl)
                        go_wp2_with fail
                        go_region_law
                          (first
                            | (go_simp; go_at_call 32
                               refine HDX.out.mono ?_
                               rintro e wy ⟨rfl, rfl⟩
                               dsimp only)
                            | (go_simp; go_at_call 43
                               refine HDE.out.mono ?_
                               rintro e wz ⟨rfl, hbz⟩
                               have HBZ := Lib.hid (below_call HBR.out hbz (Nat.le_refl _))
                               have HOXZ := Lib.hid ((hbz.block _ (blk_lt OXR.out)).trans OXR.out)
                               have x3z := cell_blk_some HOXZ.out (i := 3) rfl
                               clear hbz
                               dsimp only))
                        all_goals
                          clear hlong hwr hq x3 x3z HDE HDX
                          have hTW := HT.out.below HBZ.out
                          have hnb := hTW.node p bp nd HPP.out HM.out
                          rw [HEE.out] at hnb
                          have m1 := cell_blk_some hnb (i := 1) rfl
                          have x0 := cell_blk_some HOXZ.out (i := 0) rfl
                          have hlk : (Instr.lookup 65 (.map (some eb)) (.string (parL s)) false).run Try.prog wz = .ok (.pointer (some ⟨bt, 0, none⟩)) wz := by
                            obtain ⟨eb2, he2, hlk2⟩ := hTW.look HM.out HND.out (parL s)
                            obtain rfl : eb = eb2 := Option.some.inj (HEE.out.symm.trans he2)
                            rw [hlk2, HEN.out]
                            show Result.ok (nptr (P t)) _ = _
                            rw [HPTT.out]; rfl
                          clear hTW hnb
                          have HBD := Lib.hid HBZ.out
                          have OXD := Lib.hid HOXZ.out
                          have x1 := cell_blk_some OXD.out (i := 1) rfl
                          have x2 := cell_blk_some OXD.out (i := 2) rfl
                          have x3 := cell_blk_some OXD.out (i := 3) rfl
                          have HDR := Lib.hid (drop_keep (ob := splitD s) (n := longN (parN s ++ [parL s])) (HT.out.below HBD.out) (F := TFoot tb nb P E V) (fun _ h => h) HM.out HFF.out HPP.out (s := parL s) (i := t) (by rw [← HEF.out]; exact HEN.out) HMT.out HTP.out HT2.out HTL.out HT1.out)
                          have HDT : Hid (dropT M p (parL s) t = dropM M p fq (parL s) t ndt) := Lib.hid (by unfold dropT; rw [HMT.out]; show dropM M p (entN M p) _ t ndt = _; rw [HEF.out])
                          rw [HSD.out] at HDR
                          unfold placeA at HDR
                          go_wp2_with fail
                          refine HDR.out.mono ?_
                          rintro e wc ⟨rfl, nb', P', E', V', hTC, hFC, hfrC, hPC⟩
                          rw [← HDT.out] at hTC
                          have HTC := Lib.hid hTC
                          have HFC := Lib.hid hFC
                          have HFRC : Hid (Fr F w wc) := Lib.hid ((Fr.below HBD.out).trans (hfrC.tell fun x hx => HFT.out x hx))
                          have HSC : Hid (w.heap.size ≤ wc.heap.size) := Lib.hid (Nat.le_trans HBD.out.size hfrC.size)
                          have HPNC : Hid (P' n = some bn) := Lib.hid ((hPC n (fun e => HTN.out e.symm)).trans HPN.out)
                          have HPPC : Hid (P' p = some bp) := Lib.hid ((hPC p (fun e => HTP.out e.symm)).trans HPP.out)
                          have OXC := Lib.hid ((hfrC.block xb (blk_lt OXD.out) (fun hx => absurd (HT.out.foot_lt' hx) (Nat.not_lt.2 HXW.out))).trans OXD.out)
                          clear hTC hFC hfrC hPC HDR HDT hlk m1 x0 x1 x2 x3
                          have HMV := Lib.hid (MvOk.facts (M1 := dropT M p (parL s) t) ⟨HLF.out, HEFO.out, HLD.out, HDD.out, HPRE.out, .inr ⟨t, HEN.out, HTN.out, HNOT.out, rfl⟩⟩ HG.out)
                          have HRES : Hid (renameN M old s = (0, moveM (dropT M p (parL s) t) f (parL old) p (parL s) n)) := Lib.hid (by
                            rw [HLN.out]; unfold movedN; rw [HML.out, if_neg (by decide), HMV.out.2.1])
                          generalize dropT M p (parL s) t = M1 at *
                          have hdm := move_del HTC.out HMV.out.2.2.1
                          obtain ⟨bf, -, -, hbf, -⟩ := hdm
                          have hpv := place_good (P := P') HE.out HMV.out.2.1 (ent_dir HMV.out.2.2.1)
                          rw [hbf] at hpv
                          have HBF := Lib.hid hbf
                          have HP4 := Lib.hid (place_any HTC.out old HOZ.out)
                          rw [hpv] at HP4
                          clear hpv hbf
                          unfold nptr placeA at HP4
                          go_wp2_with fail
                          refine HP4.out.mono ?_
                          rintro e wd ⟨rfl, hbd⟩
                          have OXE : Hid ((wd.alloc (.cells #[.pointer (some ⟨bf, 0, none⟩), .string (parL old), .bool (splitD old), .int .i64 (longN (parN old ++ [parL old]))] 81)).heap[wd.heap.size]? = some (.cells #[.pointer (some ⟨bf, 0, none⟩), .string (parL old), .bool (splitD old), .int .i64 (longN (parN old ++ [parL old]))] 81 (0, 0))) := Lib.hid (blk_new rfl)
                          have HBE := Lib.hid (below_call hbd (show Below wd.heap.size wd (wd.alloc (.cells #[.pointer (some ⟨bf, 0, none⟩), .string (parL old), .bool (splitD old), .int .i64 (longN (parN old ++ [parL old]))] 81)) from (Below.refl _ wd).alloc (Nat.le_refl _) _) (Nat.le_refl _))
                          have HXD : Hid (wc.heap.size ≤ wd.heap.size) := Lib.hid hbd.size
                          clear hbd HP4
                          obtain ⟨wE, hwE⟩ : ∃ wE, wE = wd.alloc (.cells #[.pointer (some ⟨bf, 0, none⟩), .string (parL old), .bool (splitD old), .int .i64 (longN (parN old ++ [parL old]))] 81) := ⟨_, rfl⟩
                          obtain ⟨xd, hxd⟩ : ∃ xd, xd = wd.heap.size := ⟨_, rfl⟩
                          rw [← hwE, ← hxd] at OXE
                          rw [← hwE] at HBE
                          rw [← hxd] at HXD
                          have HWE := Lib.hid hwE; have HXDE := Lib.hid hxd
                          clear hwE hxd
                          go_wp2_with fail
                          rw [← HWE.out, ← HXDE.out]
                          obtain ⟨bf2, ef, ndf, hbf2, hnf, hef, ⟨ess, cc, hess⟩, w9, hdel, h9, hf9⟩ := move_del (HTC.out.below HBE.out) HMV.out.2.2.1
                          obtain rfl : bf2 = bf := Option.some.inj (hbf2.symm.trans HBF.out)
                          have x0 := cell_blk_some OXE.out (i := 0) rfl
                          have x1 := cell_blk_some OXE.out (i := 1) rfl
                          have m1 := cell_blk_some hnf (i := 1) rfl
                          have hxbE : wE.heap[xb]? = _ := (HBE.out.block _ (blk_lt OXC.out)).trans OXC.out
                          have OX9 := Lib.hid ((hf9.block xb (blk_lt hxbE) (fun e => by rw [e, hess] at hxbE; injection hxbE with hxbE; cases hxbE)).trans hxbE)
                          have H9 := Lib.hid h9; have HF9 := Lib.hid hf9; have HEFE := Lib.hid hef
                          clear hbf2 hnf hef hess h9 hf9 hxbE
                          go_still_tail 7, (by kernel_rfl)
                          change wpList _ _ _ _ _ wE.drew
                          have hd9 : isDir (setE M1 f (updE (entN M1 f) (parL old) none)) p = true := by
                            obtain ⟨_, _, q1, q2⟩ := isDir_there (ent_dir HMV.out.2.2.1)
                            rw [isDir_setE q1 q2]; exact HMV.out.2.2.2.2.1
                          have hn9 : (setE M1 f (updE (entN M1 f) (parL old) none) n).isSome = true := by
                            obtain ⟨_, _, q1, q2⟩ := isDir_there (ent_dir HMV.out.2.2.1)
                            rw [some_setE q1]; exact HMV.out.1.1.ok.ent _ _ _ HMV.out.2.2.1
                          obtain ⟨bp2, ep, ndp, hbp2, hnp, hep, w10, hput, h10, hf10⟩ := move_put (en := parL s) H9.out hd9 hn9 HPNC.out
                          obtain rfl : bp2 = bp := Option.some.inj (hbp2.symm.trans HPPC.out)
                          have y0 := cell_blk_some OX9.out (i := 0) rfl
                          have n1 := cell_blk_some hnp (i := 1) rfl
                          have H10 := Lib.hid h10; have HF10 := Lib.hid hf10; have HEPE := Lib.hid hep
                          clear hd9 hn9 hbp2 hnp hep h10 hf10 x0 x1 m1
                          go_wp2_with fail
                          go_ret
                          rw [HRES.out]
                          refine ⟨rfl, ⟨_, _, _, _, H10.out, fun x hx => .inl (HFT.out x (HFC.out x hx))⟩, ?_⟩
                          exact (((HFRC.out.trans (Fr.below HBE.out)).trans (HF9.out.tell fun x hx => HFT.out x (HFC.out x (.inr (.inr (.inr (.inl ⟨f, by rw [hx]; exact HEFE.out⟩))))))).trans (HF10.out.tell fun x hx => HFT.out x (HFC.out x (.inr (.inr (.inr (.inl ⟨p, by rw [hx]; exact HEPE.out⟩)))))))
                    · have HRES : Hid (renameN M old s = (wrongN M t true, M)) := Lib.hid (by rw [HLN2.out, if_pos hw])
                      have HLT := Lib.hid (TLeft.same HT.out HFT.out HBB.out)
                      have hc2 : (wrongN M t true != 0) = true := by simp [hw]
                      generalize wrongN M t true = cw at *
                      clear hw HLN2
                      go_wp2_with fail
                      refine HA.out.mono ?_
                      rintro e wx ⟨rfl, rfl⟩
                      clear HA
                      go_wp2_with fail
                      go_ret
                      rw [HRES.out]
                      exact ⟨rfl, HLT.out⟩
              | false =>
                rw [hsd] at x2 OX7
                have HSD := Lib.hid hsd
                clear hsd
                cases hen : entN M p (parL s) with
                | none =>
                  have HEN := Lib.hid hen
                  rw [hen] at HLN0
                  have HLN : Hid (renameN M old s = movedN M M old s p n) := Lib.hid HLN0.out
                  clear hen HLN0
                  have hTW := HT.out.below HB7.out
                  have hnb := hTW.node p bp nd HPP.out HM.out
                  rw [HEE.out] at hnb
                  have m1 := cell_blk_some hnb (i := 1) rfl
                  have x0 := cell_blk_some OX7.out (i := 0) rfl
                  have hlk : (Instr.lookup 65 (.map (some eb)) (.string (parL s)) false).run Try.prog w7 = .ok (.pointer none) w7 := by
                    obtain ⟨eb2, he2, hlk2⟩ := hTW.look HM.out HND.out (parL s)
                    obtain rfl : eb = eb2 := Option.some.inj (HEE.out.symm.trans he2)
                    rw [hlk2, HEN.out]
                    rfl

                  clear hTW hnb
                  have heq := fun w => run_eql_nil_left (P := Try.prog) w ⟨bn, 0, none⟩ Try.underlying64
                  have HBR : Hid (Below w.heap.size w w7.drew) := Lib.hid (below_drewN HB7.out 1)
                  have OXR : Hid (w7.drew.heap[xb]? = _) := Lib.hid (show w7.drew.heap[xb]? = _ from OX7.out)
                  have HDX := Lib.hid (dir_any (HT.out.below HBR.out) HI.out)
                  rw [HPN.out, HDN.out] at HDX
                  unfold nptr at HDX
                  have x3 := cell_blk_some OXR.out (i := 3) rfl
                  have HDE : Hid (Calls Try.prog 43 #[nptr (P n)] w7.drew fun e w' => e = .returned (.int .i64 (deepN M n)) ∧ Below w7.drew.heap.size w7.drew w') := Lib.hid ((deep_any HG.out.1 HG.out.2 256 (parN old ++ [parL old]) n w7.drew HPN2.out (by omega) (HT.out.below HBR.out)).mono fun e w' ⟨D, q1, q2, q3⟩ => ⟨by rw [q1, deepN_of q2], q3⟩)
                  rw [HPN.out] at HDE
                  unfold nptr at HDE
                  have HDB : Hid (0 ≤ deepN M n ∧ deepN M n ≤ 256) := Lib.hid (by
                    obtain ⟨D, hD⟩ := deep_exists HG.out.2 HPN2.out
                    rw [deepN_of hD]
                    exact hD.bd HG.out.2 HPN2.out)
                  have hlg := HLG.out
                  have hD := HDB.out
                  have hwr : IntKind.i64.wrap (longN (parN s ++ [parL s]) + deepN M n) = longN (parN s ++ [parL s]) + deepN M n := IntWalk.i64_in _ (by omega)
                  clear hlg hD
                  by_cases hlong : 255 < longN (parN s ++ [parL s]) + deepN M n
                  · have hq : decide (255 < longN (parN s ++ [parL s]) + deepN M n) = true := decide_eq_true hlong
                    have HRES : Hid (renameN M old s = (36, M)) := Lib.hid (by rw [HLN.out]; unfold movedN; rw [HDN.out, Bool.true_and, if_pos hq])
                    go_wp2_with fail
                    go_region_law
                      (first
                        | (go_simp; go_at_call 32
                           refine HDX.out.mono ?_
                           rintro e wy ⟨rfl, rfl⟩
                           dsimp only)
                        | (go_simp; go_at_call 43
                           refine HDE.out.mono ?_
                           rintro e wz ⟨rfl, hbz⟩
                           have HBZ := Lib.hid (below_call HBR.out hbz (Nat.le_refl _))
                           have HOXZ := Lib.hid ((hbz.block _ (blk_lt OXR.out)).trans OXR.out)
                           have x3z := cell_blk_some HOXZ.out (i := 3) rfl
                           clear hbz
                           dsimp only))
                    all_goals
                      have HLT := Lib.hid (TLeft.same HT.out HFT.out HBZ.out)
                      go_wp2_with fail
                      go_ret
                      rw [HRES.out]
                      exact ⟨rfl, HLT.out⟩
                  · have hq : decide (255 < longN (parN s ++ [parL s]) + deepN M n) = false := decide_eq_false hlong
                    have HML : Hid ((isDir M n && decide (255 < longN (parN s ++ [parL s]) + deepN M n)) = false) := Lib.hid (by rw [HDN.out, hq]; rfl)
                    go_wp2_with fail
                    go_region_law
                      (first
                        | (go_simp; go_at_call 32
                           refine HDX.out.mono ?_
                           rintro e wy ⟨rfl, rfl⟩
                           dsimp only)
                        | (go_simp; go_at_call 43
                           refine HDE.out.mono ?_
                           rintro e wz ⟨rfl, hbz⟩
                           have HBZ := Lib.hid (below_call HBR.out hbz (Nat.le_refl _))
                           have HOXZ := Lib.hid ((hbz.block _ (blk_lt OXR.out)).trans OXR.out)
                           have x3z := cell_blk_some HOXZ.out (i := 3) rfl
                           clear hbz
                           dsimp only))
                    all_goals
                      clear hlong hwr hq x3 x3z HDE HDX
                      have hTW := HT.out.below HBZ.out
                      have hnb := hTW.node p bp nd HPP.out HM.out
                      rw [HEE.out] at hnb
                      have m1 := cell_blk_some hnb (i := 1) rfl
                      have x0 := cell_blk_some HOXZ.out (i := 0) rfl
                      have hlk : (Instr.lookup 65 (.map (some eb)) (.string (parL s)) false).run Try.prog wz = .ok (.pointer none) wz := by
                        obtain ⟨eb2, he2, hlk2⟩ := hTW.look HM.out HND.out (parL s)
                        obtain rfl : eb = eb2 := Option.some.inj (HEE.out.symm.trans he2)
                        rw [hlk2, HEN.out]
                        rfl

                      clear hTW hnb
                      have HBD := Lib.hid HBZ.out
                      have OXD := Lib.hid HOXZ.out
                      have HTC := Lib.hid (HT.out.below HBD.out)
                      have HFC : Hid (∀ x, TFoot tb nb P E V x → TFoot tb nb P E V x) := Lib.hid fun _ h => h
                      have HFRC : Hid (Fr F w wz) := Lib.hid (Fr.below HBD.out)
                      have HSC : Hid (w.heap.size ≤ wz.heap.size) := Lib.hid HBD.out.size
                      have HPNC := Lib.hid HPN.out
                      have HPPC := Lib.hid HPP.out
                      have OXC := Lib.hid OXD.out
                      have HMV := Lib.hid (MvOk.facts (M1 := M) ⟨HLF.out, HEFO.out, HLD.out, HDD.out, HPRE.out, .inl ⟨HEN.out, rfl⟩⟩ HG.out)
                      have HRES : Hid (renameN M old s = (0, moveM M f (parL old) p (parL s) n)) := Lib.hid (by
                        rw [HLN.out]; unfold movedN; rw [HML.out, if_neg (by decide), HMV.out.2.1])
                      have x1 := cell_blk_some OXD.out (i := 1) rfl
                      have hdm := move_del HTC.out HMV.out.2.2.1
                      obtain ⟨bf, -, -, hbf, -⟩ := hdm
                      have hpv := place_good (P := P) HE.out HMV.out.2.1 (ent_dir HMV.out.2.2.1)
                      rw [hbf] at hpv
                      have HBF := Lib.hid hbf
                      have HP4 := Lib.hid (place_any HTC.out old HOZ.out)
                      rw [hpv] at HP4
                      clear hpv hbf
                      unfold nptr placeA at HP4
                      go_wp2_with fail
                      refine HP4.out.mono ?_
                      rintro e wd ⟨rfl, hbd⟩
                      clear hlk m1 x0 x1
                      have OXE : Hid ((wd.alloc (.cells #[.pointer (some ⟨bf, 0, none⟩), .string (parL old), .bool (splitD old), .int .i64 (longN (parN old ++ [parL old]))] 81)).heap[wd.heap.size]? = some (.cells #[.pointer (some ⟨bf, 0, none⟩), .string (parL old), .bool (splitD old), .int .i64 (longN (parN old ++ [parL old]))] 81 (0, 0))) := Lib.hid (blk_new rfl)
                      have HBE := Lib.hid (below_call hbd (show Below wd.heap.size wd (wd.alloc (.cells #[.pointer (some ⟨bf, 0, none⟩), .string (parL old), .bool (splitD old), .int .i64 (longN (parN old ++ [parL old]))] 81)) from (Below.refl _ wd).alloc (Nat.le_refl _) _) (Nat.le_refl _))
                      have HXD : Hid (wz.heap.size ≤ wd.heap.size) := Lib.hid hbd.size
                      clear hbd HP4
                      obtain ⟨wE, hwE⟩ : ∃ wE, wE = wd.alloc (.cells #[.pointer (some ⟨bf, 0, none⟩), .string (parL old), .bool (splitD old), .int .i64 (longN (parN old ++ [parL old]))] 81) := ⟨_, rfl⟩
                      obtain ⟨xd, hxd⟩ : ∃ xd, xd = wd.heap.size := ⟨_, rfl⟩
                      rw [← hwE, ← hxd] at OXE
                      rw [← hwE] at HBE
                      rw [← hxd] at HXD
                      have HWE := Lib.hid hwE; have HXDE := Lib.hid hxd
                      clear hwE hxd
                      go_wp2_with fail
                      rw [← HWE.out, ← HXDE.out]
                      obtain ⟨bf2, ef, ndf, hbf2, hnf, hef, ⟨ess, cc, hess⟩, w9, hdel, h9, hf9⟩ := move_del (HTC.out.below HBE.out) HMV.out.2.2.1
                      obtain rfl : bf2 = bf := Option.some.inj (hbf2.symm.trans HBF.out)
                      have x0 := cell_blk_some OXE.out (i := 0) rfl
                      have x1 := cell_blk_some OXE.out (i := 1) rfl
                      have m1 := cell_blk_some hnf (i := 1) rfl
                      have hxbE : wE.heap[xb]? = _ := (HBE.out.block _ (blk_lt OXC.out)).trans OXC.out
                      have OX9 := Lib.hid ((hf9.block xb (blk_lt hxbE) (fun e => by rw [e, hess] at hxbE; injection hxbE with hxbE; cases hxbE)).trans hxbE)
                      have H9 := Lib.hid h9; have HF9 := Lib.hid hf9; have HEFE := Lib.hid hef
                      clear hbf2 hnf hef hess h9 hf9 hxbE
                      go_still_tail 7, (by kernel_rfl)
                      change wpList _ _ _ _ _ wE.drew
                      have hd9 : isDir (setE M f (updE (entN M f) (parL old) none)) p = true := by
                        obtain ⟨_, _, q1, q2⟩ := isDir_there (ent_dir HMV.out.2.2.1)
                        rw [isDir_setE q1 q2]; exact HMV.out.2.2.2.2.1
                      have hn9 : (setE M f (updE (entN M f) (parL old) none) n).isSome = true := by
                        obtain ⟨_, _, q1, q2⟩ := isDir_there (ent_dir HMV.out.2.2.1)
                        rw [some_setE q1]; exact HMV.out.1.1.ok.ent _ _ _ HMV.out.2.2.1
                      obtain ⟨bp2, ep, ndp, hbp2, hnp, hep, w10, hput, h10, hf10⟩ := move_put (en := parL s) H9.out hd9 hn9 HPNC.out
                      obtain rfl : bp2 = bp := Option.some.inj (hbp2.symm.trans HPPC.out)
                      have y0 := cell_blk_some OX9.out (i := 0) rfl
                      have n1 := cell_blk_some hnp (i := 1) rfl
                      have H10 := Lib.hid h10; have HF10 := Lib.hid hf10; have HEPE := Lib.hid hep
                      clear hd9 hn9 hbp2 hnp hep h10 hf10 x0 x1 m1
                      go_wp2_with fail
                      go_ret
                      rw [HRES.out]
                      refine ⟨rfl, ⟨_, _, _, _, H10.out, fun x hx => .inl (HFT.out x (HFC.out x hx))⟩, ?_⟩
                      exact (((HFRC.out.trans (Fr.below HBE.out)).trans (HF9.out.tell fun x hx => HFT.out x (HFC.out x (.inr (.inr (.inr (.inl ⟨f, by rw [hx]; exact HEFE.out⟩))))))).trans (HF10.out.tell fun x hx => HFT.out x (HFC.out x (.inr (.inr (.inr (.inl ⟨p, by rw [hx]; exact HEPE.out⟩)))))))
                | some t =>
                  have HEN := Lib.hid hen
                  rw [hen] at HLN0
                  have HLN1 : Hid (renameN M old s = if t = n then (0, M) else if wrongN M t (isDir M n) ≠ 0 then (wrongN M t (isDir M n), M) else movedN M (dropT M p (parL s) t) old s p n) := Lib.hid HLN0.out
                  have hts := HG.out.1.ok.ent p (parL s) t hen
                  obtain ⟨ndt, hmt⟩ := Option.isSome_iff_exists.1 hts
                  obtain ⟨bt, hbt, _⟩ := HT.out.at_ hmt
                  have HMT := Lib.hid hmt; have HPTT := Lib.hid hbt
                  clear hen HLN0 hts hmt hbt
                  have hTW := HT.out.below HB7.out
                  have hnb := hTW.node p bp nd HPP.out HM.out
                  rw [HEE.out] at hnb
                  have m1 := cell_blk_some hnb (i := 1) rfl
                  have x0 := cell_blk_some OX7.out (i := 0) rfl
                  have hlk : (Instr.lookup 65 (.map (some eb)) (.string (parL s)) false).run Try.prog w7 = .ok (.pointer (some ⟨bt, 0, none⟩)) w7 := by
                    obtain ⟨eb2, he2, hlk2⟩ := hTW.look HM.out HND.out (parL s)
                    obtain rfl : eb = eb2 := Option.some.inj (HEE.out.symm.trans he2)
                    rw [hlk2, HEN.out]
                    show Result.ok (nptr (P t)) _ = _
                    rw [HPTT.out]; rfl
                  clear hTW hnb
                  have HBB := Lib.hid HB7.out
                  have OXB := Lib.hid OX7.out
                  obtain ⟨jn, hjn, hjs⟩ := Option.map_eq_some_iff.1 node_info
                  by_cases htn : t = n
                  · subst htn
                    obtain rfl : bt = bn := Option.some.inj (HPTT.out.symm.trans HPN.out)
                    have heq := fun w => run_eql_ptr_same (P := Try.prog) w ⟨bt, 0, none⟩ Try.underlying64 hjn
                    have HRES : Hid (renameN M old s = (0, M)) := Lib.hid (by rw [HLN1.out, if_pos rfl])
                    have HLT := Lib.hid (TLeft.same HT.out HFT.out HBB.out)
                    go_wp2_with fail
                    go_ret
                    rw [HRES.out]
                    exact ⟨rfl, HLT.out⟩
                  · have HTN := Lib.hid htn
                    have hnet : (⟨bt, 0, none⟩ : Addr) ≠ ⟨bn, 0, none⟩ := fun e => htn (HT.out.pin t n bt HPTT.out (by rw [HPN.out]; injection e with e; rw [e]))
                    obtain ⟨ndn, hmn⟩ := Option.isSome_iff_exists.1 HI.out
                    have heq := run_eql_ptr_other w7 (a := ⟨bt, 0, none⟩) (b := ⟨bn, 0, none⟩) Try.underlying64 hjn (by simpa using hjs) hnet ((HT.out.below HBB.out).node t bt ndt HPTT.out HMT.out) ((HT.out.below HBB.out).node n bn ndn HPN.out hmn)
                    have HDX := Lib.hid (dir_any (HT.out.below HBB.out) HI.out)
                    rw [HPN.out, HDN.out] at HDX
                    have HA := Lib.hid (notEmpty_any (HT.out.below HBB.out) (i := t) (by rw [HMT.out]; rfl))
                    rw [HPTT.out] at HA
                    unfold nptr at HDX HA
                    have HLN2 : Hid (renameN M old s = if wrongN M t true ≠ 0 then (wrongN M t true, M) else movedN M (dropT M p (parL s) t) old s p n) := Lib.hid (by rw [HLN1.out, if_neg htn, HDN.out])
                    clear htn hnet hmn HLN1
                    go_wp2_with fail
                    refine HDX.out.mono ?_
                    rintro e wy ⟨rfl, rfl⟩
                    clear heq HDX hlk m1 x0
                    by_cases hw : wrongN M t true = 0
                    · have HLN : Hid (renameN M old s = movedN M (dropT M p (parL s) t) old s p n) := Lib.hid (by rw [HLN2.out, if_neg (by rw [hw]; simp)])
                      have HNOT := Lib.hid (wrong_none hw)
                      rw [hw] at HA
                      have HTP : Hid (t ≠ p) := Lib.hid fun e => by have := HNOT.out (parL s); rw [e, HEN.out] at this; cases this
                      have HT2 : Hid (t ≠ 2) := Lib.hid fun e => HG.out.1.noroot p (parL s) (by rw [HEN.out, e])
                      have hlk := HG.out.1.lk t (HG.out.1.ok.ent p (parL s) t HEN.out)
                      rw [lkN_of HMT.out] at hlk
                      have HTL : Hid (1 ≤ ndt.links ∧ ndt.links ≤ 100) := Lib.hid ⟨hlk.1, hlk.2.1⟩
                      have HT1 : Hid (ndt.links = 1 → ∀ r x, r ≠ t → entN M r x = some t → r = p ∧ x = parL s) := Lib.hid fun h1 r x _ hx => HG.out.1.one (by rw [lkN_of HMT.out]; exact h1) HEN.out hx
                      clear hw HLN2 hlk
                      go_wp2_with fail
                      refine HA.out.mono ?_
                      rintro e wx ⟨rfl, rfl⟩
                      clear HA
                      have HBR : Hid (Below w.heap.size w wx.drew) := Lib.hid (below_drewN HBB.out 1)
                      have OXR : Hid (wx.drew.heap[xb]? = _) := Lib.hid (show wx.drew.heap[xb]? = _ from OXB.out)
                      have HDX := Lib.hid (dir_any (HT.out.below HBR.out) HI.out)
                      rw [HPN.out, HDN.out] at HDX
                      unfold nptr at HDX
                      have x3 := cell_blk_some OXR.out (i := 3) rfl
                      have HDE : Hid (Calls Try.prog 43 #[nptr (P n)] wx.drew fun e w' => e = .returned (.int .i64 (deepN M n)) ∧ Below wx.drew.heap.size wx.drew w') := Lib.hid ((deep_any HG.out.1 HG.out.2 256 (parN old ++ [parL old]) n wx.drew HPN2.out (by omega) (HT.out.below HBR.out)).mono fun e w' ⟨D, q1, q2, q3⟩ => ⟨by rw [q1, deepN_of q2], q3⟩)
                      rw [HPN.out] at HDE
                      unfold nptr at HDE
                      have HDB : Hid (0 ≤ deepN M n ∧ deepN M n ≤ 256) := Lib.hid (by
                        obtain ⟨D, hD⟩ := deep_exists HG.out.2 HPN2.out
                        rw [deepN_of hD]
                        exact hD.bd HG.out.2 HPN2.out)
                      have hlg := HLG.out
                      have hD := HDB.out
                      have hwr : IntKind.i64.wrap (longN (parN s ++ [parL s]) + deepN M n) = longN (parN s ++ [parL s]) + deepN M n := IntWalk.i64_in _ (by omega)
                      clear hlg hD
                      by_cases hlong : 255 < longN (parN s ++ [parL s]) + deepN M n
                      · have hq : decide (255 < longN (parN s ++ [parL s]) + deepN M n) = true := decide_eq_true hlong
                        have HRES : Hid (renameN M old s = (36, M)) := Lib.hid (by rw [HLN.out]; unfold movedN; rw [HDN.out, Bool.true_and, if_pos hq])
                        go_wp2_with fail
                        go_region_law
                          (first
                            | (go_simp; go_at_call 32
                               refine HDX.out.mono ?_
                               rintro e wy ⟨rfl, rfl⟩
                               dsimp only)
                            | (go_simp; go_at_call 43
                               refine HDE.out.mono ?_
                               rintro e wz ⟨rfl, hbz⟩
                               have HBZ := Lib.hid (below_call HBR.out hbz (Nat.le_refl _))
                               have HOXZ := Lib.hid ((hbz.block _ (blk_lt OXR.out)).trans OXR.out)
                               have x3z := cell_blk_some HOXZ.out (i := 3) rfl
                               clear hbz
                               dsimp only))
                        all_goals
                          have HLT := Lib.hid (TLeft.same HT.out HFT.out HBZ.out)
                          go_wp2_with fail
                          go_ret
                          rw [HRES.out]
                          exact ⟨rfl, HLT.out⟩
                      · have hq : decide (255 < longN (parN s ++ [parL s]) + deepN M n) = false := decide_eq_false hlong
                        have HML : Hid ((isDir M n && decide (255 < longN (parN s ++ [parL s]) + deepN M n)) = false) := Lib.hid (by rw [HDN.out, hq]; rfl)
                        go_wp2_with fail
                        go_region_law
                          (first
                            | (go_simp; go_at_call 32
                               refine HDX.out.mono ?_
                               rintro e wy ⟨rfl, rfl⟩
                               dsimp only)
                            | (go_simp; go_at_call 43
                               refine HDE.out.mono ?_
                               rintro e wz ⟨rfl, hbz⟩
                               have HBZ := Lib.hid (below_call HBR.out hbz (Nat.le_refl _))
                               have HOXZ := Lib.hid ((hbz.block _ (blk_lt OXR.out)).trans OXR.out)
                               have x3z := cell_blk_some HOXZ.out (i := 3) rfl
                               clear hbz
                               dsimp only))
                        all_goals
                          clear hlong hwr hq x3 x3z HDE HDX
                          have hTW := HT.out.below HBZ.out
                          have hnb := hTW.node p bp nd HPP.out HM.out
                          rw [HEE.out] at hnb
                          have m1 := cell_blk_some hnb (i := 1) rfl
                          have x0 := cell_blk_some HOXZ.out (i := 0) rfl
                          have hlk : (Instr.lookup 65 (.map (some eb)) (.string (parL s)) false).run Try.prog wz = .ok (.pointer (some ⟨bt, 0, none⟩)) wz := by
                            obtain ⟨eb2, he2, hlk2⟩ := hTW.look HM.out HND.out (parL s)
                            obtain rfl : eb = eb2 := Option.some.inj (HEE.out.symm.trans he2)
                            rw [hlk2, HEN.out]
                            show Result.ok (nptr (P t)) _ = _
                            rw [HPTT.out]; rfl
                          clear hTW hnb
                          have HBD := Lib.hid HBZ.out
                          have OXD := Lib.hid HOXZ.out
                          have x1 := cell_blk_some OXD.out (i := 1) rfl
                          have x2 := cell_blk_some OXD.out (i := 2) rfl
                          have x3 := cell_blk_some OXD.out (i := 3) rfl
                          have HDR := Lib.hid (drop_keep (ob := splitD s) (n := longN (parN s ++ [parL s])) (HT.out.below HBD.out) (F := TFoot tb nb P E V) (fun _ h => h) HM.out HFF.out HPP.out (s := parL s) (i := t) (by rw [← HEF.out]; exact HEN.out) HMT.out HTP.out HT2.out HTL.out HT1.out)
                          have HDT : Hid (dropT M p (parL s) t = dropM M p fq (parL s) t ndt) := Lib.hid (by unfold dropT; rw [HMT.out]; show dropM M p (entN M p) _ t ndt = _; rw [HEF.out])
                          rw [HSD.out] at HDR
                          unfold placeA at HDR
                          go_wp2_with fail
                          refine HDR.out.mono ?_
                          rintro e wc ⟨rfl, nb', P', E', V', hTC, hFC, hfrC, hPC⟩
                          rw [← HDT.out] at hTC
                          have HTC := Lib.hid hTC
                          have HFC := Lib.hid hFC
                          have HFRC : Hid (Fr F w wc) := Lib.hid ((Fr.below HBD.out).trans (hfrC.tell fun x hx => HFT.out x hx))
                          have HSC : Hid (w.heap.size ≤ wc.heap.size) := Lib.hid (Nat.le_trans HBD.out.size hfrC.size)
                          have HPNC : Hid (P' n = some bn) := Lib.hid ((hPC n (fun e => HTN.out e.symm)).trans HPN.out)
                          have HPPC : Hid (P' p = some bp) := Lib.hid ((hPC p (fun e => HTP.out e.symm)).trans HPP.out)
                          have OXC := Lib.hid ((hfrC.block xb (blk_lt OXD.out) (fun hx => absurd (HT.out.foot_lt' hx) (Nat.not_lt.2 HXW.out))).trans OXD.out)
                          clear hTC hFC hfrC hPC HDR HDT hlk m1 x0 x1 x2 x3
                          have HMV := Lib.hid (MvOk.facts (M1 := dropT M p (parL s) t) ⟨HLF.out, HEFO.out, HLD.out, HDD.out, HPRE.out, .inr ⟨t, HEN.out, HTN.out, HNOT.out, rfl⟩⟩ HG.out)
                          have HRES : Hid (renameN M old s = (0, moveM (dropT M p (parL s) t) f (parL old) p (parL s) n)) := Lib.hid (by
                            rw [HLN.out]; unfold movedN; rw [HML.out, if_neg (by decide), HMV.out.2.1])
                          generalize dropT M p (parL s) t = M1 at *
                          have hdm := move_del HTC.out HMV.out.2.2.1
                          obtain ⟨bf, -, -, hbf, -⟩ := hdm
                          have hpv := place_good (P := P') HE.out HMV.out.2.1 (ent_dir HMV.out.2.2.1)
                          rw [hbf] at hpv
                          have HBF := Lib.hid hbf
                          have HP4 := Lib.hid (place_any HTC.out old HOZ.out)
                          rw [hpv] at HP4
                          clear hpv hbf
                          unfold nptr placeA at HP4
                          go_wp2_with fail
                          refine HP4.out.mono ?_
                          rintro e wd ⟨rfl, hbd⟩
                          have OXE : Hid ((wd.alloc (.cells #[.pointer (some ⟨bf, 0, none⟩), .string (parL old), .bool (splitD old), .int .i64 (longN (parN old ++ [parL old]))] 81)).heap[wd.heap.size]? = some (.cells #[.pointer (some ⟨bf, 0, none⟩), .string (parL old), .bool (splitD old), .int .i64 (longN (parN old ++ [parL old]))] 81 (0, 0))) := Lib.hid (blk_new rfl)
                          have HBE := Lib.hid (below_call hbd (show Below wd.heap.size wd (wd.alloc (.cells #[.pointer (some ⟨bf, 0, none⟩), .string (parL old), .bool (splitD old), .int .i64 (longN (parN old ++ [parL old]))] 81)) from (Below.refl _ wd).alloc (Nat.le_refl _) _) (Nat.le_refl _))
                          have HXD : Hid (wc.heap.size ≤ wd.heap.size) := Lib.hid hbd.size
                          clear hbd HP4
                          obtain ⟨wE, hwE⟩ : ∃ wE, wE = wd.alloc (.cells #[.pointer (some ⟨bf, 0, none⟩), .string (parL old), .bool (splitD old), .int .i64 (longN (parN old ++ [parL old]))] 81) := ⟨_, rfl⟩
                          obtain ⟨xd, hxd⟩ : ∃ xd, xd = wd.heap.size := ⟨_, rfl⟩
                          rw [← hwE, ← hxd] at OXE
                          rw [← hwE] at HBE
                          rw [← hxd] at HXD
                          have HWE := Lib.hid hwE; have HXDE := Lib.hid hxd
                          clear hwE hxd
                          go_wp2_with fail
                          rw [← HWE.out, ← HXDE.out]
                          obtain ⟨bf2, ef, ndf, hbf2, hnf, hef, ⟨ess, cc, hess⟩, w9, hdel, h9, hf9⟩ := move_del (HTC.out.below HBE.out) HMV.out.2.2.1
                          obtain rfl : bf2 = bf := Option.some.inj (hbf2.symm.trans HBF.out)
                          have x0 := cell_blk_some OXE.out (i := 0) rfl
                          have x1 := cell_blk_some OXE.out (i := 1) rfl
                          have m1 := cell_blk_some hnf (i := 1) rfl
                          have hxbE : wE.heap[xb]? = _ := (HBE.out.block _ (blk_lt OXC.out)).trans OXC.out
                          have OX9 := Lib.hid ((hf9.block xb (blk_lt hxbE) (fun e => by rw [e, hess] at hxbE; injection hxbE with hxbE; cases hxbE)).trans hxbE)
                          have H9 := Lib.hid h9; have HF9 := Lib.hid hf9; have HEFE := Lib.hid hef
                          clear hbf2 hnf hef hess h9 hf9 hxbE
                          go_still_tail 7, (by kernel_rfl)
                          change wpList _ _ _ _ _ wE.drew
                          have hd9 : isDir (setE M1 f (updE (entN M1 f) (parL old) none)) p = true := by
                            obtain ⟨_, _, q1, q2⟩ := isDir_there (ent_dir HMV.out.2.2.1)
                            rw [isDir_setE q1 q2]; exact HMV.out.2.2.2.2.1
                          have hn9 : (setE M1 f (updE (entN M1 f) (parL old) none) n).isSome = true := by
                            obtain ⟨_, _, q1, q2⟩ := isDir_there (ent_dir HMV.out.2.2.1)
                            rw [some_setE q1]; exact HMV.out.1.1.ok.ent _ _ _ HMV.out.2.2.1
                          obtain ⟨bp2, ep, ndp, hbp2, hnp, hep, w10, hput, h10, hf10⟩ := move_put (en := parL s) H9.out hd9 hn9 HPNC.out
                          obtain rfl : bp2 = bp := Option.some.inj (hbp2.symm.trans HPPC.out)
                          have y0 := cell_blk_some OX9.out (i := 0) rfl
                          have n1 := cell_blk_some hnp (i := 1) rfl
                          have H10 := Lib.hid h10; have HF10 := Lib.hid hf10; have HEPE := Lib.hid hep
                          clear hd9 hn9 hbp2 hnp hep h10 hf10 x0 x1 m1
                          go_wp2_with fail
                          go_ret
                          rw [HRES.out]
                          refine ⟨rfl, ⟨_, _, _, _, H10.out, fun x hx => .inl (HFT.out x (HFC.out x hx))⟩, ?_⟩
                          exact (((HFRC.out.trans (Fr.below HBE.out)).trans (HF9.out.tell fun x hx => HFT.out x (HFC.out x (.inr (.inr (.inr (.inl ⟨f, by rw [hx]; exact HEFE.out⟩))))))).trans (HF10.out.tell fun x hx => HFT.out x (HFC.out x (.inr (.inr (.inr (.inl ⟨p, by rw [hx]; exact HEPE.out⟩)))))))
                    · have HRES : Hid (renameN M old s = (wrongN M t true, M)) := Lib.hid (by rw [HLN2.out, if_pos hw])
                      have HLT := Lib.hid (TLeft.same HT.out HFT.out HBB.out)
                      have hc2 : (wrongN M t true != 0) = true := by simp [hw]
                      generalize wrongN M t true = cw at *
                      clear hw HLN2
                      go_wp2_with fail
                      refine HA.out.mono ?_
                      rintro e wx ⟨rfl, rfl⟩
                      clear HA
                      go_wp2_with fail
                      go_ret
                      rw [HRES.out]
                      exact ⟨rfl, HLT.out⟩
    · have HRES : Hid (renameN M old s = (parE s, M)) := Lib.hid (by unfold renameN; rw [if_neg (by rw [HE.out]; simp), if_pos hPE])
      have hc2 : (parE s != 0) = true := by simp [hPE]
      generalize parE s = c at *
      clear hPE
      go_wp2_with fail
      refine HP2.out.mono ?_
      rintro e w2 ⟨v2, rfl, -, hb2, -⟩
      have HLT := Lib.hid (TLeft.same HT.out HFT.out (below_call HB1.out hb2 (Nat.le_refl _)))
      clear hb2 HP2
      go_wp2_with fail
      go_ret
      rw [HRES.out]
      exact ⟨rfl, HLT.out⟩
  · have HRES : Hid (renameN M old s = (parE old, M)) := Lib.hid (by unfold renameN; rw [if_pos hE])
    have hc2 : (parE old != 0) = true := by simp [hE]
    generalize parE old = c at *
    clear hE
    go_enter Try.func25, Try.ntmps25
    go_wp2_with fail
    refine HP1.out.mono ?_
    rintro e w1 ⟨v, rfl, -, hb1, -⟩
    have HLT := Lib.hid (TLeft.same HT.out HFT.out hb1)
    clear hb1 HP1
    go_wp2_with fail
    go_ret
    rw [HRES.out]
    exact ⟨rfl, HLT.out⟩
end
end Go.Proofs.Ytoofcnehoffllaa
