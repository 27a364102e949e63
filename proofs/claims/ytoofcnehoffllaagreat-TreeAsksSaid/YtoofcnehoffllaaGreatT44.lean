/- A name moved, plainly: what is always so stays so. -/
/- Rename, plainly. -/
import Derived.Test.YtoofcnehoffllaaGreatT31
import Derived.Test.YtoofcnehoffllaaGreatT24
namespace Go.Proofs.YtoofcnehoffllaaGreat
open Go.RowKit

/-- The name last of f is gone, n has the name en of p. -/
def moveM (M : TM) (f : Nat) (last : ByteArray) (p : Nat) (en : ByteArray) (n : Nat) : TM :=
  setE (setE M f (updE (entN M f) last none)) p (updE (entN (setE M f (updE (entN M f) last none)) p) en (some n))
theorem goE_del {e : EM} {f n : Nat} {last : ByteArray} (hs : e f last = some n) : ∀ (l : List ByteArray) (i j : Nat), goE e i l = some j → goE (putE e f last none) i l = some j ∨ ∃ l1 l2, l = l1 ++ [last] ++ l2 ∧ goE e i l1 = some f ∧ goE e n l2 = some j
  | [], i, j, h => .inl h
  | s :: l, i, j, h => by
    rw [goE_cons] at h
    by_cases hc : i = f ∧ s = last
    · obtain ⟨rfl, rfl⟩ := hc
      rw [hs] at h
      exact .inr ⟨[], l, rfl, rfl, h⟩
    · cases he : e i s with
      | none => rw [he] at h; cases h
      | some k =>
        rw [he] at h
        rcases goE_del hs l k j h with h1 | ⟨l1, l2, rfl, h1, h2⟩
        · left
          rw [goE_cons, putE_other hc, he]
          exact h1
        · right
          exact ⟨s :: l1, l2, rfl, by rw [goE_cons, he]; exact h1, h2⟩
theorem goE_add {e : EM} {p n : Nat} {en : ByteArray} (hnp : ∀ l, goE e n l ≠ some p) : ∀ (m : Nat) (l : List ByteArray) (j : Nat), l.length ≤ m → goE (putE e p en (some n)) 2 l = some j → goE e 2 l = some j ∨ ∃ l1 l2, l = l1 ++ [en] ++ l2 ∧ goE e 2 l1 = some p ∧ goE e n l2 = some j := by
  intro m
  induction m with
  | zero =>
    intro l j hl h
    obtain rfl : l = [] := List.eq_nil_of_length_eq_zero (by omega)
    exact .inl h
  | succ m ih =>
    intro l j hl h
    rcases snoc_cases l with rfl | ⟨r, t, rfl⟩
    · exact .inl h
    · obtain ⟨q, hq, hqt⟩ := goE_snoc.1 h
      have hrl : r.length ≤ m := by rw [List.length_append] at hl; simp at hl; omega
      rcases ih r q hrl hq with hr | ⟨l1, l2, rfl, h1, h2⟩
      · by_cases hc : q = p ∧ t = en
        · obtain ⟨rfl, rfl⟩ := hc
          rw [putE_self] at hqt
          injection hqt with hqt
          subst hqt
          exact .inr ⟨r, [], by simp, hr, rfl⟩
        · rw [putE_other hc] at hqt
          exact .inl (goE_snoc.2 ⟨q, hr, hqt⟩)
      · by_cases hc : q = p ∧ t = en
        · obtain ⟨rfl, rfl⟩ := hc
          exact absurd h2 (hnp l2)
        · rw [putE_other hc] at hqt
          exact .inr ⟨l1, l2 ++ [t], by simp, h1, goE_snoc.2 ⟨q, h2, hqt⟩⟩
section
variable {M : TM} {cap : Nat}
theorem move_same {f p n : Nat} {last en : ByteArray} (hf : isDir M f = true) (hp : isDir M p = true) : entN (moveM M f last p en n) = putE (putE (entN M) f last none) p en (some n) ∧ (∀ x, isDir (moveM M f last p en n) x = isDir M x) ∧ (∀ x, (moveM M f last p en n x).isSome = (M x).isSome) ∧ (∀ x, lkN (moveM M f last p en n) x = lkN M x) ∧ ∀ x, datN (moveM M f last p en n) x = datN M x := by
  obtain ⟨ndf, ff, hmf, hff⟩ := isDir_there hf
  have hd1 : ∀ x, isDir (setE M f (updE (entN M f) last none)) x = isDir M x := fun x => isDir_setE hmf hff
  have hp1 : isDir (setE M f (updE (entN M f) last none)) p = true := (hd1 p).trans hp
  obtain ⟨ndp, fp, hmp, hfp⟩ := isDir_there hp1
  refine ⟨?_, fun x => ?_, fun x => ?_, fun x => ?_, fun x => ?_⟩
  · unfold moveM
    rw [ent_setE hp1, ent_setE hf]
  · unfold moveM
    rw [isDir_setE hmp hfp, hd1]
  · unfold moveM
    rw [some_setE hmp, some_setE hmf]
  · unfold moveM
    rw [setE_same.1, setE_same.1]
  · unfold moveM
    rw [setE_same.2, setE_same.2]
theorem Good.move (h : Good M cap) {f p n : Nat} {last en : ByteArray} {rp : List ByteArray} (hs : entN M f last = some n) (hp : isDir M p = true) (hn : entN M p en = none) (hnm : nameE en.data.toList = 0) (hrp : goE (entN M) 2 rp = some p) (hno : ∀ l, goE (entN M) n l ≠ some p)
    (hlong : ∀ l j, goE (entN M) n l = some j → longN (rp ++ [en]) + longN l + dirB M j ≤ 255) : Good (moveM M f last p en n) cap := by
  have hf := ent_dir hs
  obtain ⟨he, hd, hsm, hlk, hdt⟩ := move_same (n := n) (last := last) (en := en) hf hp
  have hn2 : n ≠ 2 := fun e => h.1.noroot f last (by rw [hs, e])
  have hns := h.1.ok.ent f last n hs
  obtain ⟨ndf, ff, hmf, hff⟩ := isDir_there hf
  have hp1 : isDir (setE M f (updE (entN M f) last none)) p = true := (isDir_setE hmf hff).trans hp
  obtain ⟨ndp, fp, hmp, hfp⟩ := isDir_there hp1
  have hne : ¬ (p = f ∧ en = last) := fun ⟨e1, e2⟩ => by rw [e1, e2, hs] at hn; cases hn
  have he1 : putE (entN M) f last none p en = none := by rw [putE_other hne]; exact hn
  have hmono : ∀ i s j, putE (entN M) f last none i s = some j → entN M i s = some j := fun i s j hh => by
    unfold putE at hh
    split at hh
    · cases hh
    · exact hh
  obtain ⟨L, hL, hl⟩ := h.1.nms
  obtain ⟨L', hN', hj'⟩ := num_del hL hs
  obtain ⟨hN2, hj2⟩ := num_put hN' n he1
  obtain ⟨lf, hlf⟩ := h.1.reach f (by rw [hmf]; rfl)
  -- n leads not to f
  have hnf : ∀ l, goE (entN M) n l ≠ some f := fun l hg => by
    have hg2 : goE (entN M) 2 (lf ++ [last] ++ l) = some f := by
      rw [goE_append, goE_snoc.2 ⟨f, hlf, hs⟩]
      exact hg
    have := h.1.uniq lf.length lf _ f (Nat.le_refl _) hf hlf hg2
    have h9 := congrArg List.length this
    rw [List.length_append, List.length_append, List.length_singleton] at h9
    omega
  have hdn : ∀ l j, goE (entN M) n l = some j → goE (putE (entN M) f last none) n l = some j := fun l j hg => by
    rcases goE_del hs l n j hg with h1 | ⟨l1, l2, rfl, h1, h2⟩
    · exact h1
    · exact absurd h1 (hnf l1)
  have hdp : goE (putE (entN M) f last none) 2 rp = some p := by
    rcases goE_del hs rp 2 p hrp with h1 | ⟨l1, l2, rfl, h1, h2⟩
    · exact h1
    · exact absurd h2 (hno l2)
  have hmono2 : ∀ i s j, putE (entN M) f last none i s = some j → putE (putE (entN M) f last none) p en (some n) i s = some j := fun i s j hh => by
    rw [putE_other (fun e => by rw [e.1, e.2, he1] at hh; cases hh)]; exact hh
  refine ⟨⟨?_, fun q t ht => ?_, ⟨(p, en) :: L', by rw [he]; exact hN2, fun x hx h2 => ?_⟩, fun x hx => ?_, fun x => by rw [hdt]; exact h.1.byt x, fun x hx => ?_⟩, ⟨fun q t j ht => ?_, fun l j hl0 hg => ?_⟩⟩
  · unfold moveM
    refine setE_ok (setE_ok h.1.ok hmf hff fun t j ht => ?_) hmp hfp fun t j ht => ?_
    · unfold updE at ht
      split at ht
      · cases ht
      · exact h.1.ok.ent f t j ht
    · rw [some_setE hmf]
      unfold updE at ht
      split at ht
      · injection ht with ht; rw [← ht]; exact hns
      · have ht2 : entN (setE M f (updE (entN M f) last none)) p t = some j := ht
        rw [ent_setE hf] at ht2
        exact h.1.ok.ent p t j (hmono _ _ _ ht2)
  · rw [he] at ht
    unfold putE at ht
    split at ht
    · injection ht with ht; exact hn2 ht
    · split at ht
      · cases ht
      · exact h.1.noroot q t ht
  · rw [hsm] at hx
    rw [he, hlk, hl x hx h2]
    have h3 := hj' x
    have h4 := hj2 x
    rw [h4]
    omega
  · rw [hsm] at hx
    rw [hlk, hd, hdt]
    exact h.1.lk x hx
  · rw [hsm] at hx
    rw [he]
    obtain ⟨l, hlx⟩ := h.1.reach x hx
    rcases goE_del hs l 2 x hlx with h1 | ⟨l1, l2, rfl, h1, h2⟩
    · exact ⟨l, goE_mono hmono2 l 2 x h1⟩
    · refine ⟨rp ++ [en] ++ l2, ?_⟩
      rw [goE_append, goE_snoc.2 ⟨p, goE_mono hmono2 rp 2 p hdp, putE_self⟩]
      exact goE_mono hmono2 l2 n x (hdn l2 x h2)
  · rw [he] at ht
    unfold putE at ht
    split at ht
    · rename_i hc
      rw [hc.2]; exact hnm
    · split at ht
      · cases ht
      · exact h.2.nam q t j ht
  · rw [he] at hg
    have hdb : dirB (moveM M f last p en n) j = dirB M j := by unfold dirB; rw [hd]
    rw [hdb]
    rcases goE_add (fun l hh => hno l (goE_mono hmono l n p hh)) l.length l j (Nat.le_refl _) hg with h1 | ⟨l1, l2, rfl, h1, h2⟩
    · exact h.2.short l j hl0 (goE_mono hmono l 2 j h1)
    · have h1' := goE_mono hmono l1 2 p h1
      rw [h.1.uniq l1.length l1 rp p (Nat.le_refl _) hp h1' hrp, longN_append]
      exact hlong l2 j (goE_mono hmono l2 n j h2)
/-- How many bytes the longest path below a node has more. -/
theorem DeepIs.less {M' : TM} {i : Nat} {D : Int} (h : DeepIs M i D) (he : ∀ p s j, entN M' p s = some j → entN M p s = some j) (hd : ∀ l j, goE (entN M') i l = some j → dirB M' j = dirB M j) : ∀ l j, goE (entN M') i l = some j → longN l + dirB M' j ≤ D := fun l j hg => by
  rw [hd l j hg]
  exact h.2 l j (goE_mono he l i j hg)
end
end Go.Proofs.YtoofcnehoffllaaGreat

namespace Go.Proofs.YtoofcnehoffllaaGreat
open Go.RowKit

open Classical in
/-- How many bytes the longest path below a node has more than its own. -/
noncomputable def deepN (M : TM) (i : Nat) : Int := if h : ∃ D, DeepIs M i D then h.choose else 0
theorem deepN_of {M : TM} {i : Nat} {D : Int} (h : DeepIs M i D) : deepN M i = D := by
  unfold deepN
  rw [dif_pos ⟨D, h⟩]
  exact (Exists.choose_spec (⟨D, h⟩ : ∃ D, DeepIs M i D)).eq h
theorem deep_exists {M : TM} (hS : TS M) {lp : List ByteArray} {i : Nat} (hl : goE (entN M) 2 lp = some i) : ∃ D, DeepIs M i D := by
  apply Classical.byContradiction
  intro hc
  have key : ∀ k : Nat, ∃ l j, goE (entN M) i l = some j ∧ (k : Int) ≤ longN l + dirB M j := by
    intro k
    induction k with
    | zero => exact ⟨[], i, rfl, by have := dirB_bd M i; simp only [longN, List.map_nil, List.sum_nil]; omega⟩
    | succ k ih =>
      obtain ⟨l, j, h1, h2⟩ := ih
      apply Classical.byContradiction
      intro hn
      refine hc ⟨longN l + dirB M j, ⟨l, j, h1, rfl⟩, fun l' j' h' => ?_⟩
      apply Classical.byContradiction
      intro h3
      exact hn ⟨l', j', h', by omega⟩
  obtain ⟨l, j, h1, h2⟩ := key 300
  have h4 : goE (entN M) 2 (lp ++ l) = some j := by rw [goE_append, hl]; exact h1
  have := (hS.len h4).1
  rw [longN_append] at this
  have := longN_len lp
  have := dirB_bd M j
  omega
noncomputable def movedN (M M1 : TM) (old s : ByteArray) (p n : Nat) : Int × TM :=
  if isDir M n && decide (255 < longN (parN s ++ [parL s]) + deepN M n) then (36, M) else match leadN M1 2 (parN old) with
    | .inr _ => (0, M1)
    | .inl f => (0, moveM M1 f (parL old) p (parL s) n)
/-- What Rename answers, and what the tree is then. -/
noncomputable def renameN (M : TM) (old s : ByteArray) : Int × TM :=
  if parE old ≠ 0 then (parE old, M) else if parE s ≠ 0 then (parE s, M) else match lookN M old with
    | .inr c => (c, M)
    | .inl n => if placeC M s ≠ 0 then (placeC M s, M) else match leadN M 2 (parN s) with
      | .inr _ => (0, M)
      | .inl p => if isDir M n && isPre (parN old ++ [parL old]) (parN s) then (22, M) else if splitD s && !isDir M n then (20, M) else match entN M p (parL s) with
        | some t => if t = n then (0, M) else if wrongN M t (isDir M n) ≠ 0 then (wrongN M t (isDir M n), M) else movedN M (dropT M p (parL s) t) old s p n
        | none => movedN M M old s p n
section
variable {M : TM} {cap : Nat}
/-- What is so behind the questions of Rename. -/
structure MvOk (M M1 : TM) (old s : ByteArray) (p n f : Nat) : Prop where
  lf : leadN M 2 (parN old) = .inl f
  ef : entN M f (parL old) = some n
  lp : leadN M 2 (parN s) = .inl p
  dp : isDir M p = true
  pre : (isDir M n && isPre (parN old ++ [parL old]) (parN s)) = false
  way : (entN M p (parL s) = none ∧ M1 = M) ∨ ∃ t, entN M p (parL s) = some t ∧ t ≠ n ∧ (∀ x, entN M t x = none) ∧ M1 = dropT M p (parL s) t
theorem MvOk.facts {M1 : TM} {old s : ByteArray} {p n f : Nat} (h : MvOk M M1 old s p n f) (hG : Good M cap) : Good M1 cap ∧ leadN M1 2 (parN old) = .inl f ∧ entN M1 f (parL old) = some n ∧ leadN M1 2 (parN s) = .inl p ∧ isDir M1 p = true ∧ entN M1 p (parL s) = none ∧
    (∀ q t j, entN M1 q t = some j → entN M q t = some j) ∧ (∀ x, (M1 x).isSome = true → isDir M1 x = isDir M x) := by
  rcases h.way with ⟨he, rfl⟩ | ⟨t, he, htn, hno, rfl⟩
  · exact ⟨hG, h.lf, h.ef, h.lp, h.dp, he, fun _ _ _ => id, fun _ _ => rfl⟩
  · obtain ⟨nt, hmt⟩ := Option.isSome_iff_exists.1 (hG.1.ok.ent p (parL s) t he)
    obtain ⟨e1, d1⟩ := drop_ent hmt he hno
    have hgd := hG.drop he hno
    have hft : f ≠ t := fun e => by have := h.ef; rw [e, hno] at this; cases this
    have hpt : p ≠ t := fun e => by rw [e, hno] at he; cases he
    have hlf := goE_drop hno he (parN old) 2 f hft ((lead_goE _ _ _).1 h.lf)
    have hlp := goE_drop hno he (parN s) 2 p hpt ((lead_goE _ _ _).1 h.lp)
    rw [← e1] at hlf hlp
    have hsp : (dropT M p (parL s) t p).isSome = true := by
      have := (lead_goE (M := dropT M p (parL s) t) (parN s) 2 p).2 hlp
      exact lead_there hgd.1.ok _ 2 p hgd.1.ok.root_there this
    refine ⟨hgd, (lead_goE _ _ _).2 hlf, ?_, (lead_goE _ _ _).2 hlp, (d1 p hsp).trans h.dp, by rw [e1]; exact putE_self, fun q x j hx => ?_, d1⟩
    · rw [e1, putE_other (fun e => by
        have := h.ef
        rw [e.1, e.2, he] at this
        injection this with this
        exact htn this)]
      exact h.ef
    · rw [e1] at hx
      unfold putE at hx
      split at hx
      · cases hx
      · exact hx
theorem Good.moved {M1 : TM} {old s : ByteArray} {p n f : Nat} (hG : Good M cap) (h : MvOk M M1 old s p n f) (hs : parE s = 0) (hlong : ¬ (isDir M n && decide (255 < longN (parN s ++ [parL s]) + deepN M n)) = true) : Good (moveM M1 f (parL old) p (parL s) n) cap := by
  obtain ⟨g1, l1, e1, l2, d2, e2, mono, dd⟩ := h.facts hG
  obtain ⟨hnm, hln, hsz⟩ := par_names hs
  have hpn : goE (entN M) 2 (parN old ++ [parL old]) = some n := goE_snoc.2 ⟨f, (lead_goE _ _ _).1 h.lf, h.ef⟩
  have hthere : ∀ l j, goE (entN M1) n l = some j → (M1 j).isSome = true := fun l j hg => by
    have : leadN M1 2 (parN old ++ [parL old] ++ l) = .inl j := (lead_goE _ _ _).2 (by
      rw [goE_append, goE_snoc.2 ⟨f, (lead_goE _ _ _).1 l1, e1⟩]; exact hg)
    exact lead_there g1.1.ok _ 2 j g1.1.ok.root_there this
  refine g1.move e1 d2 e2 (hnm _ (by simp)) ((lead_goE _ _ _).1 l2) (fun l hg => ?_) fun l j hg => ?_
  · have hg' := goE_mono mono l n p hg
    cases hdn : isDir M n with
    | false =>
      obtain ⟨_, hpe⟩ := goE_sub (ent_file hdn) l p hg'
      have := h.dp
      rw [hpe, hdn] at this; cases this
    | true =>
      have h2 : goE (entN M) 2 (parN old ++ [parL old] ++ l) = some p := by rw [goE_append, hpn]; exact hg'
      have := hG.1.uniq (parN s).length (parN s) _ p (Nat.le_refl _) h.dp ((lead_goE _ _ _).1 h.lp) h2
      have hp := h.pre
      rw [hdn, Bool.true_and] at hp
      unfold isPre at hp
      rw [decide_eq_false_iff_not] at hp
      exact hp (by rw [this]; exact List.take_left.symm)
  · have hg' := goE_mono mono l n j hg
    have hdj : dirB M1 j = dirB M j := by unfold dirB; rw [dd j (hthere l j hg)]
    rw [hdj]
    cases hdn : isDir M n with
    | false =>
      obtain ⟨rfl, rfl⟩ := goE_sub (ent_file hdn) l j hg'
      have : dirB M j = 0 := by unfold dirB; rw [hdn]; decide
      rw [this]
      simp only [longN, List.map_nil, List.sum_nil] at hln ⊢
      omega
    | true =>
      obtain ⟨D, hD⟩ := deep_exists hG.2 hpn
      rw [hdn, deepN_of hD, Bool.true_and, decide_eq_true_eq] at hlong
      have := hD.2 l j hg'
      omega
theorem Good.rename (hG : Good M cap) (old s : ByteArray) : Good (renameN M old s).2 cap := by
  unfold renameN
  by_cases h1 : parE old = 0
  · rw [if_neg (by rw [h1]; simp)]
    by_cases h2 : parE s = 0
    · rw [if_neg (by rw [h2]; simp)]
      cases hq : lookN M old with
      | inr c => exact hG
      | inl n =>
        dsimp only
        by_cases hc : placeC M s = 0
        · rw [if_neg (by rw [hc]; simp)]
          obtain ⟨f, hlf, hef⟩ := look_par h1 hq
          cases hlp : leadN M 2 (parN s) with
          | inr c => exact hG
          | inl p =>
            dsimp only
            have hpd : isDir M p = true := by
              unfold placeC at hc
              rw [if_neg (by rw [h2]; simp), hlp] at hc
              have hc : (if isDir M p = true then (0 : Int) else 20) = 0 := hc
              cases hd : isDir M p with
              | true => rfl
              | false => rw [hd] at hc; cases hc
            by_cases hp : (isDir M n && isPre (parN old ++ [parL old]) (parN s)) = true
            · rw [if_pos hp]; exact hG
            · rw [if_neg hp]
              have hp' := Bool.eq_false_iff.2 hp
              by_cases hsd : (splitD s && !isDir M n) = true
              · rw [if_pos hsd]; exact hG
              · rw [if_neg hsd]
                have fin : ∀ {M1 : TM}, MvOk M M1 old s p n f → Good (movedN M M1 old s p n).2 cap := fun {M1} hm => by
                  unfold movedN
                  by_cases hl : (isDir M n && decide (255 < longN (parN s ++ [parL s]) + deepN M n)) = true
                  · rw [if_pos hl]; exact hG
                  · rw [if_neg hl, (hm.facts hG).2.1]
                    exact hG.moved hm h2 hl
                cases he : entN M p (parL s) with
                | none => exact fin ⟨hlf, hef, hlp, hpd, hp', .inl ⟨he, rfl⟩⟩
                | some t =>
                  dsimp only
                  by_cases htn : t = n
                  · rw [if_pos htn]; exact hG
                  · rw [if_neg htn]
                    by_cases hw : wrongN M t (isDir M n) = 0
                    · rw [if_neg (by rw [hw]; simp)]
                      exact fin ⟨hlf, hef, hlp, hpd, hp', .inr ⟨t, he, htn, wrong_none hw, rfl⟩⟩
                    · rw [if_pos hw]; exact hG
        · rw [if_pos hc]; exact hG
    · rw [if_pos h2]; exact hG
  · rw [if_pos h1]; exact hG
end
section
variable {P : Program} {T E : TypeId} {k bt : Nat} {z : Value} {ops : Array Oper} {rest : List Oper} {o : Oper} {a : Act} {w : World} {Q : Exit → Act → World → Prop} {B : Nat} {v x : Value} {n m : Nat} {xs ys : List Value}
/-- append where a guard's answer is known. -/
theorem wpList_append_gg (hw : Region.wanted o (yielded ops a.tmps) = true) (s y : Operand) (ho : o.op = .call { callee := .builtin .append, args := #[s, y], argTypes := #[T, T] }) (h : ElT P T E k bt z)
    (hs : a.eval s = v) (hown : w.ownsRow B E k v n xs) (hy : a.eval y = x) (hx : SrcG k w x m ys) (h63 : n + m ≤ maxLen) (hlen : (n + m) * bt ≤ 140737488355328) (hB : B ≤ w.heap.size)
    (hK : ∀ v' w', w'.ownsRow B E k v' (n + m) (xs ++ ys) → Fr (fun y => v.ownBlock = some y) w w' → (v'.ownBlock = v.ownBlock ∨ v'.ownBlock = some w.heap.size) → wpList P ops Q rest (a.put o.dst v') w') : wpList P ops Q (o :: rest) a w :=
  wpList_of_wp hw fun _ hK' => wp_append_g s y ho h hs hown hy hx h63 hlen hB fun v' w' h2 h3 h4 => hK' _ _ (hK v' w' h2 h3 h4)
end
end Go.Proofs.YtoofcnehoffllaaGreat
