/- Where a move leads, plainly. -/
import Derived.Test.YtoofcnehoffllaaT48
namespace Go.Proofs.Ytoofcnehoffllaa
open Go.RowKit

theorem goE_same {e e' : EM} {p : Nat} {en : ByteArray} (hp : e p en = none) (h : ∀ x t, ¬ (x = p ∧ t = en) → e' x t = e x t) : ∀ (l : List ByteArray) (i j : Nat), goE e i l = some j → goE e' i l = some j
  | [], i, j, hg => hg
  | s :: l, i, j, hg => by
    rw [goE_cons] at hg ⊢
    by_cases hc : i = p ∧ s = en
    · rw [hc.1, hc.2, hp] at hg; cases hg
    · rw [h i s hc]
      cases hx : e i s with
      | none => rw [hx] at hg; cases hg
      | some k =>
        rw [hx] at hg
        exact goE_same hp h l k j hg
/-- A path that led somewhere leads by the new entry nowhere else. -/
theorem goE_putback {e : EM} {p n : Nat} {en : ByteArray} (hp : e p en = none) : ∀ (l : List ByteArray) (i k j : Nat) (d : EM), (∀ x t y, d x t = some y → e x t = some y) → goE e i l = some k → goE (putE d p en (some n)) i l = some j → goE d i l = some j
  | [], i, k, j, d, hd, h1, h2 => h2
  | s :: l, i, k, j, d, hd, h1, h2 => by
    rw [goE_cons] at h1 h2 ⊢
    by_cases hc : i = p ∧ s = en
    · rw [hc.1, hc.2, hp] at h1; cases h1
    · rw [putE_other hc] at h2
      cases hx : d i s with
      | none => rw [hx] at h2; cases h2
      | some y =>
        rw [hx] at h2
        rw [hd i s y hx] at h1
        exact goE_putback hp l y k j d hd h1 h2
section
variable {M : TM} {cap : Nat}
theorem look_of {s : ByteArray} {p i : Nat} (hp : parE s = 0) (hl : goE (entN M) 2 (parN s) = some p) (he : entN M p (parL s) = some i) : lookN M s = if splitD s && !isDir M i then .inr 20 else .inl i := by
  obtain ⟨h0, hs⟩ := par_split hp
  unfold lookN
  rw [if_neg (by rw [h0]; simp), hs, (lead_goE _ _ _).2 (goE_snoc.2 ⟨p, hl, he⟩)]
theorem look_to {s : ByteArray} {i : Nat} (hp : parE s = 0) (hl : lookN M s = .inl i) : goE (entN M) 2 (parN s ++ [parL s]) = some i := by
  obtain ⟨p, h1, h2⟩ := look_par hp hl
  exact goE_snoc.2 ⟨p, (lead_goE _ _ _).1 h1, h2⟩
theorem stat_ok {s : ByteArray} {i : Nat} (h : lookN M s = .inl i) : statN M s = (((i : Int), (if isDir M i then 2 else 1), lkN M i, ((datN M i).length : Int)), 0) := by unfold statN; rw [h]
theorem stat_no {s : ByteArray} {c : Int} (h : lookN M s = .inr c) : statN M s = ((0, 0, 0, 0), c) := by unfold statN; rw [h]
theorem read_ok {s : ByteArray} {i : Nat} (h : lookN M s = .inl i) : readN M s 0 4096 = if isDir M i then ([], 21) else ((datN M i).take 4096, 0) := by
  unfold readN fileN
  rw [h]
  dsimp only
  by_cases hd : isDir M i = true
  · rw [if_pos hd, if_pos hd]
  · rw [if_neg hd, if_neg hd]
    dsimp only
    rw [if_neg (by omega)]
    rfl
/-- What is so behind a move that was not refused. -/
theorem moves_plain (hG : Good M cap) {old s : ByteArray} (h0 : (renameN M old s).1 = 0) : ∃ n, lookN M old = .inl n ∧ lookN (renameN M old s).2 s = .inl n ∧ isDir (renameN M old s).2 n = isDir M n ∧ lkN (renameN M old s).2 n = lkN M n ∧ datN (renameN M old s).2 n = datN M n ∧
    ((lookN M s = .inl n ∧ lookN (renameN M old s).2 old = .inl n) ∨ (lookN M s ≠ .inl n ∧ ∃ c, c ≠ 0 ∧ lookN (renameN M old s).2 old = .inr c)) := by
  unfold renameN at h0 ⊢
  by_cases h1 : parE old = 0
  rotate_left
  · rw [if_pos h1] at h0; exact absurd h0 h1
  rw [if_neg (show ¬ parE old ≠ 0 by rw [h1]; simp)] at h0 ⊢
  by_cases h2 : parE s = 0
  rotate_left
  · rw [if_pos h2] at h0; exact absurd h0 h2
  rw [if_neg (show ¬ parE s ≠ 0 by rw [h2]; simp)] at h0 ⊢
  cases hq : lookN M old with
  | inr c => rw [hq] at h0; exact absurd h0 (look_code hq)
  | inl n =>
    rw [hq] at h0
    dsimp only at h0 ⊢
    by_cases hc : placeC M s = 0
    rotate_left
    · rw [if_pos hc] at h0; exact absurd h0 hc
    rw [if_neg (show ¬ placeC M s ≠ 0 by rw [hc]; simp)] at h0 ⊢
    obtain ⟨f, hlf, hef⟩ := look_par h1 hq
    cases hlp : leadN M 2 (parN s) with
    | inr c =>
      exfalso
      unfold placeC at hc
      rw [if_neg (by rw [h2]; simp), hlp] at hc
      exact lead_code hlp hc
    | inl p =>
      rw [hlp] at h0
      dsimp only at h0 ⊢
      have hpd : isDir M p = true := by
        unfold placeC at hc
        rw [if_neg (by rw [h2]; simp), hlp] at hc
        have hc : (if isDir M p = true then (0 : Int) else 20) = 0 := hc
        cases hd : isDir M p with
        | true => rfl
        | false => rw [hd] at hc; cases hc
      by_cases hp : (isDir M n && isPre (parN old ++ [parL old]) (parN s)) = true
      · rw [if_pos hp] at h0; cases h0
      rw [if_neg hp] at h0 ⊢
      have hp' := Bool.eq_false_iff.2 hp
      by_cases hsd : (splitD s && !isDir M n) = true
      · rw [if_pos hsd] at h0; cases h0
      rw [if_neg hsd] at h0 ⊢
      have hgo := (lead_goE _ _ _).1 hlp
      have fin : ∀ {M1 : TM}, MvOk M M1 old s p n f → (∀ x, (M1 x).isSome = true → x = n → lkN M1 x = lkN M x ∧ datN M1 x = datN M x) → lookN M s ≠ .inl n → (movedN M M1 old s p n).1 = 0 →
          lookN (movedN M M1 old s p n).2 s = .inl n ∧ isDir (movedN M M1 old s p n).2 n = isDir M n ∧ lkN (movedN M M1 old s p n).2 n = lkN M n ∧ datN (movedN M M1 old s p n).2 n = datN M n ∧
          ((lookN M s = .inl n ∧ lookN (movedN M M1 old s p n).2 old = .inl n) ∨ (lookN M s ≠ .inl n ∧ ∃ c, c ≠ 0 ∧ lookN (movedN M M1 old s p n).2 old = .inr c)) := fun {M1} hm hld hne hz => by
        obtain ⟨g1, l1, e1, l2, d2, e2, mono, dd⟩ := hm.facts hG
        unfold movedN at hz ⊢
        by_cases hl : (isDir M n && decide (255 < longN (parN s ++ [parL s]) + deepN M n)) = true
        · rw [if_pos hl] at hz; cases hz
        rw [if_neg hl, l1]
        dsimp only
        have hgm := hG.moved hm h2 hl
        obtain ⟨he, hd, hsm, hlk, hdt⟩ := move_same (n := n) (last := parL old) (en := parL s) (ent_dir e1) d2
        have hn1 := g1.1.ok.ent f (parL old) n e1
        obtain ⟨q1, q2⟩ := hld n hn1 rfl
        have hdn : isDir (moveM M1 f (parL old) p (parL s) n) n = isDir M n := (hd n).trans (dd n hn1)
        have hpn : goE (entN M) 2 (parN old ++ [parL old]) = some n := goE_snoc.2 ⟨f, (lead_goE _ _ _).1 hlf, hef⟩
        have hno : ∀ l, goE (entN M1) n l ≠ some p := fun l hg => by
          have hg' := goE_mono mono l n p hg
          cases hdn' : isDir M n with
          | false =>
            obtain ⟨_, hpe⟩ := goE_sub (ent_file hdn') l p hg'
            rw [hpe, hdn'] at hpd; cases hpd
          | true =>
            have h3 : goE (entN M) 2 (parN old ++ [parL old] ++ l) = some p := by rw [goE_append, hpn]; exact hg'
            have := hG.1.uniq (parN s).length (parN s) _ p (Nat.le_refl _) hpd hgo h3
            rw [hdn', Bool.true_and] at hp'
            unfold isPre at hp'
            rw [decide_eq_false_iff_not] at hp'
            exact hp' (by rw [this]; exact List.take_left.symm)
        have hgp : goE (putE (entN M1) f (parL old) none) 2 (parN s) = some p := by
          rcases goE_del e1 (parN s) 2 p ((lead_goE _ _ _).1 l2) with h | ⟨la, lb, _, _, hb⟩
          · exact h
          · exact absurd hb (hno lb)
        have hpe : (putE (entN M1) f (parL old) none) p (parL s) = none := by
          unfold putE
          split
          · rfl
          · exact e2
        have hgs : goE (entN (moveM M1 f (parL old) p (parL s) n)) 2 (parN s) = some p := by
          rw [he]
          exact goE_same hpe (fun x t ht => putE_other ht) (parN s) 2 p hgp
        refine ⟨?_, hdn, (hlk n).trans q1, (hdt n).trans q2, .inr ⟨hne, ?_⟩⟩
        · rw [look_of h2 hgs (by rw [he]; exact putE_self), hdn, if_neg hsd]
        · cases hlo : lookN (moveM M1 f (parL old) p (parL s) n) old with
          | inr c => exact ⟨c, look_code hlo, rfl⟩
          | inl j =>
            exfalso
            have hgj := look_to h1 hlo
            rw [he] at hgj
            have hd0 : ∀ x t y, (putE (entN M1) f (parL old) none) x t = some y → entN M1 x t = some y := fun x t y hx => by
              unfold putE at hx
              split at hx
              · cases hx
              · exact hx
            have := goE_putback e2 (parN old ++ [parL old]) 2 n j _ hd0 (goE_snoc.2 ⟨f, (lead_goE _ _ _).1 l1, e1⟩) hgj
            obtain ⟨y, hy1, hy2⟩ := goE_snoc.1 this
            have hy3 := goE_mono hd0 (parN old) 2 y hy1
            rw [(lead_goE _ _ _).1 l1] at hy3
            injection hy3 with hy3
            rw [← hy3, putE_self] at hy2
            cases hy2
      have hpt := hpd
      refine ⟨n, rfl, ?_⟩
      cases he : entN M p (parL s) with
      | none =>
        rw [he] at h0
        refine fin ⟨hlf, hef, hlp, hpd, hp', .inl ⟨he, rfl⟩⟩ (fun _ _ _ => ⟨rfl, rfl⟩) (fun hl => ?_) h0
        have := look_to h2 hl
        obtain ⟨y, hy1, hy2⟩ := goE_snoc.1 this
        rw [hgo] at hy1
        injection hy1 with hy1
        rw [← hy1, he] at hy2
        cases hy2
      | some t =>
        rw [he] at h0
        dsimp only at h0 ⊢
        by_cases htn : t = n
        · rw [if_pos htn]
          have hls : lookN M s = .inl n := by rw [look_of h2 hgo he, htn, if_neg hsd]
          exact ⟨hls, rfl, rfl, rfl, .inl ⟨hls, hq⟩⟩
        · rw [if_neg htn] at h0 ⊢
          by_cases hw : wrongN M t (isDir M n) = 0
          rotate_left
          · rw [if_pos hw] at h0; exact absurd h0 hw
          rw [if_neg (show ¬ wrongN M t (isDir M n) ≠ 0 by rw [hw]; simp)] at h0 ⊢
          obtain ⟨nt, hmt⟩ := Option.isSome_iff_exists.1 (hG.1.ok.ent p (parL s) t he)
          refine fin ⟨hlf, hef, hlp, hpd, hp', .inr ⟨t, he, htn, wrong_none hw, rfl⟩⟩ (fun x hx hxn => ?_) (fun hl => ?_) h0
          · obtain ⟨a, b⟩ := drop_lk hmt he x hx
            rw [if_neg (fun e => htn (by rw [← e, hxn]))] at a
            exact ⟨a, b⟩
          · have := look_to h2 hl
            obtain ⟨y, hy1, hy2⟩ := goE_snoc.1 this
            rw [hgo] at hy1
            injection hy1 with hy1
            rw [← hy1, he] at hy2
            injection hy2 with hy2
            exact htn hy2
end
end Go.Proofs.Ytoofcnehoffllaa
