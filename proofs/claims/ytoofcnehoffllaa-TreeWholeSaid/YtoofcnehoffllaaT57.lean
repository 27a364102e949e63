/- TreeWhole, plainly: refused calls; paths and names counted. -/
/- TreeWhole, plainly: what is listed, summed. -/
/- TreeWhole, plainly: the paths that Walk tells, and what each leads to. -/
/- TreeWhole, plainly: the two rows of numbers are alike. -/
/- TreeWhole: a row of 201 numbers is not unlike itself. -/
/- A call of a script beside other memory (printed by tools/gen56.py from XT48). -/
/- Walk of the statement TreeWhole: it returns true. -/
import Derived.Test.YtoofcnehoffllaaT48
import Derived.Test.YtoofcnehoffllaaT49
namespace Go.Proofs.Ytoofcnehoffllaa
open Go.RowKit

section
variable {M : TM} {cap : Nat}
theorem make_refused {s : ByteArray} {d : Bool} : (makeN M cap s d).2.1 ≠ 0 → (makeN M cap s d).2.2 = M := by
  unfold makeN
  split
  · intro _; rfl
  · split
    · intro h; exact absurd rfl h
    · split
      · intro _; rfl
      · intro h; exact absurd rfl h
theorem link_refused {old s : ByteArray} : (linkN M old s).1 ≠ 0 → (linkN M old s).2 = M := by
  unfold linkN
  repeat' split
  all_goals first
    | (intro _; rfl)
    | (intro h; exact absurd rfl h)
theorem gone_refused {s : ByteArray} {d : Bool} : (goneN M s d).1 ≠ 0 → (goneN M s d).2 = M := by
  unfold goneN
  repeat' split
  all_goals first
    | (intro _; rfl)
    | (intro h; exact absurd rfl h)
theorem rename_refused {old s : ByteArray} : (renameN M old s).1 ≠ 0 → (renameN M old s).2 = M := by
  have hm : ∀ (M1 : TM) (p n : Nat), (movedN M M1 old s p n).1 ≠ 0 → (movedN M M1 old s p n).2 = M := fun M1 p n => by
    unfold movedN
    split
    · intro _; rfl
    · cases leadN M1 2 (parN old) with
      | inr c => intro h; exact absurd rfl h
      | inl f => intro h; exact absurd rfl h
  unfold renameN
  repeat' split
  all_goals first
    | exact hm _ _ _
    | (intro _; rfl)
    | (intro h; exact absurd rfl h)
theorem write_refused {s : ByteArray} {a : Int} {x : List Int} : (writeN M s a x).1 ≠ 0 → (writeN M s a x).2 = M := by
  unfold writeN
  repeat' split
  all_goals first
    | (intro _; rfl)
    | (intro h; exact absurd rfl h)
theorem trunc_refused {s : ByteArray} {k : Int} : (truncN M s k).1 ≠ 0 → (truncN M s k).2 = M := by
  unfold truncN
  repeat' split
  all_goals first
    | (intro _; rfl)
    | (intro h; exact absurd rfl h)
/-- A refused call changes nothing. -/
theorem do_refused {o : TOp} : (doN M cap o).2.1 ≠ 0 → (doN M cap o).2.2 = M := by
  unfold doN
  repeat' split
  · exact make_refused
  · exact make_refused
  · exact link_refused
  · exact gone_refused
  · exact gone_refused
  · exact rename_refused
  · exact write_refused
  · exact trunc_refused
  · intro _; rfl
theorem goE_last {l : List ByteArray} (hl : l ≠ [] ∧ (goE (entN M) 2 l).isSome = true) : entN M (lastOf M l).1 (lastOf M l).2 = goE (entN M) 2 l := by
  rcases snoc_cases l with rfl | ⟨r, s, rfl⟩
  · exact absurd rfl hl.1
  · obtain ⟨i, hi⟩ := Option.isSome_iff_exists.1 hl.2
    obtain ⟨p, hp, hs⟩ := goE_snoc.1 hi
    rw [last_snoc hp, hi]
    exact hs
theorem walk_perm (h : TG M cap) {LL : List (List ByteArray)} (hB : BelowIs M 2 LL) {L : List (Nat × ByteArray)} (hL : Names (entN M) L) : (LL.map (lastOf M)).Perm L := by
  refine (List.perm_ext_iff_of_nodup (nodup_on hB.1 fun a ha b hb e => h.last_inj ((hB.2 a).1 ha) ((hB.2 b).1 hb) e) hL.1).2 fun x => ⟨fun hx => ?_, fun hx => ?_⟩
  · obtain ⟨l, hl, rfl⟩ := List.mem_map.1 hx
    exact last_in hL ((hB.2 l).1 hl)
  · obtain ⟨p, s⟩ := x
    have he := (hL.2 _).1 hx
    obtain ⟨i, hi⟩ := Option.isSome_iff_exists.1 he
    have hi : entN M p s = some i := hi
    obtain ⟨nd, f, hm, _⟩ := isDir_there (ent_dir hi)
    obtain ⟨r, hr⟩ := h.reach p (by rw [hm]; rfl)
    refine List.mem_map.2 ⟨r ++ [s], (hB.2 _).2 ⟨by simp, by rw [goE_snoc.2 ⟨p, hr, hi⟩]; rfl⟩, last_snoc hr⟩
/-- Each inode but the root is reached by as many paths as it has names. -/
theorem count_paths (h : TG M cap) {LL : List (List ByteArray)} (hB : BelowIs M 2 LL) {i : Nat} (hi : (M i).isSome = true) (h2 : i ≠ 2) : ((LL.countP fun l => goE (entN M) 2 l == some i : Nat) : Int) = lkN M i := by
  obtain ⟨L, hL, hl⟩ := h.nms
  rw [hl i hi h2]
  unfold numL
  rw [← (walk_perm h hB hL).countP_eq, List.countP_map]
  refine congrArg _ (List.countP_congr fun l hl' => ?_)
  show (goE (entN M) 2 l == some i) = true ↔ (entN M (lastOf M l).1 (lastOf M l).2 == some i) = true
  rw [goE_last ((hB.2 l).1 hl')]
/-- The root is reached by no other path. -/
theorem count_root (h : TG M cap) {LL : List (List ByteArray)} (hB : BelowIs M 2 LL) : (LL.countP fun l => goE (entN M) 2 l == some 2) = 0 := by
  rw [List.countP_eq_zero]
  intro l hl hc
  have hl' := (hB.2 l).1 hl
  rw [beq_iff_eq] at hc
  rw [← goE_last hl'] at hc
  exact h.noroot _ _ hc
end
end Go.Proofs.Ytoofcnehoffllaa

namespace Go.Proofs.Ytoofcnehoffllaa
open Go.RowKit

theorem sum_add {α : Type} (f g : α → Nat) : ∀ L : List α, (L.map fun x => f x + g x).sum = (L.map f).sum + (L.map g).sum
  | [] => rfl
  | x :: L => by
    simp only [List.map_cons, List.sum_cons]
    rw [sum_add f g L]
    omega
theorem sum_zero {α : Type} : ∀ L : List α, (L.map fun _ => 0).sum = 0
  | [] => rfl
  | x :: L => by
    simp only [List.map_cons, List.sum_cons]
    rw [sum_zero L]
theorem sum_none {a : List ByteArray} : ∀ {L : List (List ByteArray)}, a ∉ L → (L.map fun q => if a = q then 1 else 0).sum = 0
  | [], _ => rfl
  | x :: L, h => by
    simp only [List.map_cons, List.sum_cons]
    rw [sum_none (fun hm => h (List.mem_cons_of_mem _ hm)), if_neg (fun e => h (by rw [e]; exact List.mem_cons_self ..))]
theorem sum_one {a : List ByteArray} : ∀ {L : List (List ByteArray)}, L.Nodup → a ∈ L → (L.map fun q => if a = q then 1 else 0).sum = 1
  | [], _, h => by cases h
  | x :: L, hn, h => by
    simp only [List.map_cons, List.sum_cons]
    obtain ⟨h1, h2⟩ := List.nodup_cons.1 hn
    by_cases e : a = x
    · rw [if_pos e, sum_none (by rw [e]; exact h1)]
    · rw [if_neg e, sum_one h2 ((List.mem_cons.1 h).resolve_left e)]
/-- Each path once, at the path ahead of its last name. -/
theorem sum_fibers {QS : List (List ByteArray)} (hq : QS.Nodup) : ∀ (LL : List (List ByteArray)), (∀ l ∈ LL, l.dropLast ∈ QS) → (QS.map fun q => LL.countP fun l => decide (l.dropLast = q)).sum = LL.length
  | [], _ => sum_zero QS
  | l :: LL, h => by
    have e : (fun q => (l :: LL).countP fun l => decide (l.dropLast = q)) = fun q => (LL.countP fun l => decide (l.dropLast = q)) + (if l.dropLast = q then 1 else 0) := by
      funext q
      rw [List.countP_cons]
      by_cases hc : l.dropLast = q
      · rw [if_pos hc, if_pos (by simpa using hc)]
      · rw [if_neg hc, if_neg (by simpa using hc)]
    rw [e, sum_add, sum_fibers hq LL fun x hx => h x (List.mem_cons_of_mem _ hx), sum_one hq (h l (List.mem_cons_self ..)), List.length_cons]
section
variable {M : TM} {cap : Nat}
/-- As many names as a directory has, so many paths go on from it. -/
theorem fiber_len {LL : List (List ByteArray)} (hB : BelowIs M 2 LL) {q : List ByteArray} {j : Nat} (hq : goE (entN M) 2 q = some j) {ls : List ByteArray} (hls : ls.Nodup ∧ ∀ s, s ∈ ls ↔ (entN M j s).isSome = true) :
    (LL.countP fun l => decide (l.dropLast = q)) = ls.length := by
  rw [List.countP_eq_length_filter]
  have hp : (LL.filter fun l => decide (l.dropLast = q)).Perm (ls.map fun s => q ++ [s]) := by
    refine (List.perm_ext_iff_of_nodup (hB.1.filter _) (nodup_on hls.1 fun a _ b _ e => by
      have := List.append_cancel_left e
      exact (List.cons.inj this).1)).2 fun l => ⟨fun hl => ?_, fun hl => ?_⟩
    · obtain ⟨h1, h2⟩ := List.mem_filter.1 hl
      have h2 := of_decide_eq_true h2
      obtain ⟨h3, h4⟩ := (hB.2 l).1 h1
      rcases snoc_cases l with rfl | ⟨r, s, rfl⟩
      · exact absurd rfl h3
      · rw [List.dropLast_concat] at h2
        subst h2
        obtain ⟨i, hi⟩ := Option.isSome_iff_exists.1 h4
        obtain ⟨p, hp, hs⟩ := goE_snoc.1 hi
        rw [hq] at hp
        injection hp with hp
        exact List.mem_map.2 ⟨s, (hls.2 s).2 (by rw [hp, hs]; rfl), rfl⟩
    · obtain ⟨s, hs, rfl⟩ := List.mem_map.1 hl
      obtain ⟨i, hi⟩ := Option.isSome_iff_exists.1 ((hls.2 s).1 hs)
      refine List.mem_filter.2 ⟨(hB.2 _).2 ⟨by simp, by rw [goE_snoc.2 ⟨j, hq, hi⟩]; rfl⟩, decide_eq_true (by rw [List.dropLast_concat])⟩
  rw [hp.length_eq, List.length_map]
/-- All paths, the root's among them, have as many paths behind them as there are. -/
theorem sum_lists {LL : List (List ByteArray)} (hB : BelowIs M 2 LL) : ((([] : List ByteArray) :: LL).map fun q => LL.countP fun l => decide (l.dropLast = q)).sum = LL.length := by
  refine sum_fibers (List.nodup_cons.2 ⟨fun h => ((hB.2 _).1 h).1 rfl, hB.1⟩) LL fun l hl => ?_
  obtain ⟨h3, h4⟩ := (hB.2 l).1 hl
  rcases snoc_cases l with rfl | ⟨r, s, rfl⟩
  · exact absurd rfl h3
  · rw [List.dropLast_concat]
    by_cases hr : r = []
    · rw [hr]; exact List.mem_cons_self ..
    · obtain ⟨i, hi⟩ := Option.isSome_iff_exists.1 h4
      obtain ⟨p, hp, hs⟩ := goE_snoc.1 hi
      exact List.mem_cons_of_mem _ ((hB.2 r).2 ⟨hr, by rw [hp]; rfl⟩)
end
end Go.Proofs.Ytoofcnehoffllaa

namespace Go.Proofs.Ytoofcnehoffllaa
open Go.RowKit

theorem perm_map_inv {α β : Type} [DecidableEq α] (f : α → β) : ∀ (l : List β) (LL : List α), l.Perm (LL.map f) → ∃ LL' : List α, LL'.Perm LL ∧ l = LL'.map f
  | [], LL, h => by
    have := h.length_eq
    rw [List.length_map] at this
    obtain rfl := List.eq_nil_of_length_eq_zero this.symm
    exact ⟨[], List.Perm.refl _, rfl⟩
  | x :: l, LL, h => by
    obtain ⟨a, ha, rfl⟩ := List.mem_map.1 (h.subset (List.mem_cons_self ..))
    have hp := List.perm_cons_erase ha
    have h2 : (f a :: l).Perm (f a :: (LL.erase a).map f) := h.trans (hp.map f)
    obtain ⟨LL', h3, h4⟩ := perm_map_inv f l (LL.erase a) h2.cons_inv
    exact ⟨a :: LL', (h3.cons a).trans hp.symm, by rw [h4]; rfl⟩
section
variable {M : TM} {cap : Nat}
/-- Walk's texts are the paths below the root, each once. -/
theorem walk_list {l : List ByteArray} (h : WalkIs M l) : ∃ LL, BelowIs M 2 LL ∧ l = LL.map (pathAt M) := by
  obtain ⟨_, LL, hB, hp⟩ := h
  obtain ⟨LL', h1, h2⟩ := perm_map_inv (pathAt M) l LL hp
  exact ⟨LL', ⟨h1.nodup_iff.2 hB.1, fun x => h1.mem_iff.trans (hB.2 x)⟩, h2⟩
theorem path_last {l : List ByteArray} {d : Bool} (h : NamesOk l) (hn : d = true ∨ l ≠ []) : ((pathS l d).data.toList.getLast? == some 47) = d := by
  unfold pathS
  rw [data_mkS]
  cases d with
  | true => rw [if_pos rfl, List.getLast?_concat]; rfl
  | false =>
    have hl : l ≠ [] := hn.resolve_left (by simp)
    rw [if_neg (by simp), List.append_nil]
    have := slashed_last h hl
    cases hq : (slashed l).getLast? with
    | none => rfl
    | some x =>
      rw [hq] at this
      rw [beq_eq_false_iff_ne]
      exact this
/-- What a path below the root leads to. -/
theorem look_at (hG : Good M cap) {q : List ByteArray} {j : Nat} (hq : goE (entN M) 2 q = some j) (hn : q ≠ []) : lookN M (pathAt M q) = .inl j ∧ (pathAt M q).size ≤ 255 ∧ ((pathAt M q).data.toList.getLast? == some 47) = isDir M j := by
  have hs := hG.2.short q j hn hq
  have hnm := hG.2.names hq
  have hsz : (pathS q (isDir M j)).size ≤ 255 := by
    have := path_size q (isDir M j)
    unfold dirB at hs
    omega
  rw [pathAt_of hq]
  refine ⟨?_, hsz, path_last hnm (.inr hn)⟩
  rw [look_path hnm hn hsz, (lead_goE _ _ _).2 hq]
  cases hd : isDir M j with
  | false => rfl
  | true =>
    show (if (true && !isDir M j) = true then (.inr 20 : Nat ⊕ Int) else .inl j) = .inl j
    rw [hd]; rfl
/-- What the root's path leads to. -/
theorem look_slash (hG : Good M cap) : pathAt M [] = ⟨#[47]⟩ ∧ lookN M ⟨#[47]⟩ = .inl 2 := by
  have hd := hG.1.ok.root
  refine ⟨by rw [pathAt_of (j := 2) rfl, hd, path_root], ?_⟩
  unfold lookN
  rw [if_neg (by decide), show splitN ⟨#[47]⟩ = [] from rfl]
  show (if splitD ⟨#[47]⟩ && !isDir M 2 then (.inr 20 : Nat ⊕ Int) else .inl 2) = .inl 2
  rw [hd, Bool.not_true, Bool.and_false]; rfl
end
end Go.Proofs.Ytoofcnehoffllaa

namespace Go.Proofs.Ytoofcnehoffllaa
open Go.RowKit

/-- How many of the paths lead to an inode. -/
def cntN (M : TM) (Q : List (List ByteArray)) (i : Nat) : Nat := Q.countP fun q => goE (entN M) 2 q == some i
/-- Its links, where one of the paths leads to it. -/
def lnkN (M : TM) (Q : List (List ByteArray)) (i : Nat) : Int := if 0 < cntN M Q i then lkN M i else 0
/-- What is listed at the paths. -/
def lisN (LL Q : List (List ByteArray)) : Nat := (Q.map fun q => LL.countP fun l => decide (l.dropLast = q)).sum
section
variable {M : TM} {cap : Nat}
theorem cnt_snoc {Q : List (List ByteArray)} {q : List ByteArray} {j i : Nat} (hq : goE (entN M) 2 q = some j) : cntN M (Q ++ [q]) i = cntN M Q i + if i = j then 1 else 0 := by
  unfold cntN
  rw [List.countP_append, List.countP_singleton, hq]
  by_cases e : i = j
  · rw [if_pos e, if_pos (by rw [e]; simp)]
  · rw [if_neg e, if_neg (by simp only [beq_iff_eq]; intro h; injection h with h; exact e h.symm)]
theorem lnk_snoc {Q : List (List ByteArray)} {q : List ByteArray} {j i : Nat} (hq : goE (entN M) 2 q = some j) : lnkN M (Q ++ [q]) i = if i = j then lkN M j else lnkN M Q i := by
  unfold lnkN
  rw [cnt_snoc hq]
  by_cases e : i = j
  · rw [if_pos e, if_pos e, if_pos (by omega), e]
  · rw [if_neg e, if_neg e, Nat.add_zero]
theorem lis_snoc {LL Q : List (List ByteArray)} {q : List ByteArray} : lisN LL (Q ++ [q]) = lisN LL Q + LL.countP fun l => decide (l.dropLast = q) := by
  unfold lisN
  rw [List.map_append, List.sum_append]
  simp
theorem cnt_root (h : TG M cap) {LL : List (List ByteArray)} (hB : BelowIs M 2 LL) : cntN M ([] :: LL) 2 = 1 := by
  unfold cntN
  rw [List.countP_cons, count_root h hB]
  rfl
theorem cnt_all (h : TG M cap) {LL : List (List ByteArray)} (hB : BelowIs M 2 LL) (i : Nat) : ((cntN M ([] :: LL) i : Nat) : Int) = lnkN M ([] :: LL) i := by
  unfold lnkN
  by_cases h2 : i = 2
  · subst h2
    rw [cnt_root h hB, if_pos (by omega), ((h.lk 2 h.ok.root_there).2.2 h.ok.root).1]; rfl
  · have he : cntN M ([] :: LL) i = LL.countP fun l => goE (entN M) 2 l == some i := by
      unfold cntN
      rw [List.countP_cons, if_neg (by simp only [beq_iff_eq]; intro hh; injection hh with hh; exact h2 hh.symm), Nat.add_zero]
    rw [he]
    by_cases hi : (M i).isSome = true
    · have hc := count_paths h hB hi h2
      have := (h.lk i hi).1
      rw [if_pos (by omega), hc]
    · have hz : (LL.countP fun l => goE (entN M) 2 l == some i) = 0 := by
        rw [List.countP_eq_zero]
        intro l hl hc
        rw [beq_iff_eq] at hc
        exact hi (lead_there h.ok l 2 i h.ok.root_there ((lead_goE _ _ _).2 hc))
      rw [hz, if_neg (by omega)]; rfl
theorem lis_all {LL : List (List ByteArray)} (hB : BelowIs M 2 LL) : lisN LL ([] :: LL) = LL.length := sum_lists hB
end
end Go.Proofs.Ytoofcnehoffllaa

namespace Go.Proofs.Ytoofcnehoffllaa
open Go.RowKit

theorem neq_same (f : Nat → Int) (xs : Array Value) (hx : ∀ j, j < 201 → xs[j]? = some (.int .i64 (f j))) (w : World) : (Op.equalIn 10000 57 (.agg xs) (.agg xs)).run Try.prog w = .ok true w := by
  obtain ⟨i, hi⟩ : ∃ i, Try.prog.info? 3 = some i := Option.isSome_iff_exists.1 (by kernel_rfl)
  have hs : i.size = 1 := by
    have : (Try.prog.info? 3).map (·.size) = some 1 := by kernel_rfl
    rw [hi] at this; exact Option.some.inj this
  have h : ∀ d : Nat, (Op.equalIn (d + 3) 57 (.agg xs) (.agg xs)).run Try.prog w = .ok true w := fun d => by
    rw [run_equalIn_array (d + 2) _ 3 201 Try.underlying57 i hi, hs]
    rw [run_eqElems (d + 2) _ 1 _ _ (fun _ => true)]
    · rw [show ((List.range 201).all fun _ => true) = true by rw [List.all_eq_true]; intros; rfl]
    · intro j hj
      have hjn := List.mem_range.1 hj
      have hag : (isAgg 3).run Try.prog w = .ok false w := by simp [isAgg, run_underlying Try.underlying3]
      refine ⟨.int .i64 (f j), .int .i64 (f j), ?_, ?_, ?_⟩
      · simp [part, hag, hx j hjn]
      · simp [part, hag, hx j hjn]
      · go_simp
  exact h 9997
section
variable {w0 w : World} {tb cap : Nat} {M : TM}
/-- What Stat and List answer at a path that Walk tells, or at the root's. -/
theorem stat_at (hG : Good M cap) {LL : List (List ByteArray)} (hB : BelowIs M 2 LL) {q : List ByteArray} (hq : q ∈ ([] : List ByteArray) :: LL) :
    ∃ j, goE (entN M) 2 q = some j ∧ 2 ≤ j ∧ j < cap ∧ (pathAt M q).size ≤ 255 ∧ statN M (pathAt M q) = (((j : Int), (if isDir M j then 2 else 1), lkN M j, ((datN M j).length : Int)), 0) ∧ ((pathAt M q).data.toList.getLast? == some 47) = isDir M j ∧ lookN M (pathAt M q) = .inl j ∧ (isDir M j = true → lkN M j = 1 ∧ datN M j = []) := by
  have fin : ∀ j, goE (entN M) 2 q = some j → 2 ≤ j ∧ j < cap ∧ (isDir M j = true → lkN M j = 1 ∧ datN M j = []) := fun j hj => by
    have hs := lead_there hG.1.ok q 2 j hG.1.ok.root_there ((lead_goE _ _ _).2 hj)
    obtain ⟨nd, hm⟩ := Option.isSome_iff_exists.1 hs
    exact ⟨(hG.1.ok.low j nd hm).1, (hG.1.ok.low j nd hm).2, (hG.1.lk j hs).2.2⟩
  rcases List.mem_cons.1 hq with rfl | hq
  · obtain ⟨h1, h2⟩ := look_slash hG
    obtain ⟨f1, f2, f3⟩ := fin 2 rfl
    rw [h1]
    exact ⟨2, rfl, f1, f2, by decide, stat_ok h2, by rw [hG.1.ok.root]; rfl, h2, f3⟩
  · obtain ⟨hn, hs⟩ := (hB.2 q).1 hq
    obtain ⟨j, hj⟩ := Option.isSome_iff_exists.1 hs
    obtain ⟨h1, h2, h3⟩ := look_at hG hj hn
    obtain ⟨f1, f2, f3⟩ := fin j hj
    exact ⟨j, hj, f1, f2, h2, stat_ok h1, h3, h1, f3⟩
theorem LAt.list (h : LAt w0 w tb cap M) (s : ByteArray) (hs : s.size ≤ 1000000) :
    Calls Try.prog 26 #[.pointer (some ⟨tb, 0, none⟩), .string s] w fun e w' => ∃ v l, e = .returned (.tuple #[v, .int .i64 (listC M s)]) ∧ ListOf M s l ∧ w'.ownsRow w.heap.size 9 1 v l.length (l.map Value.string) ∧ Below w.heap.size w w' :=
  list_any h.at_ h.good.1 h.good.2 s hs
end
end Go.Proofs.Ytoofcnehoffllaa

namespace Go.Proofs.Ytoofcnehoffllaa
open Go.RowKit

section
variable {w0 w wb w' : World} {tb nb cap : Nat} {P E : Nat → Option Nat} {V : Nat → Value} {M M' : TM} {F : Nat → Prop}
theorem LFt.leave (h : LFt w0 w tb cap F M) (hbw : Below w.heap.size w wb) (hl : TLeft wb w' tb cap F M') (hg : Good M' cap) : ∃ F', LFt w0 w' tb cap F' M' ∧ Fr F w w' := by
  obtain ⟨F', a, -⟩ := (h.below hbw).left hl hg
  exact ⟨F', a, (Fr.below hbw).trans hl.2⟩
set_option maxHeartbeats 4000000 in
set_option maxRecDepth 100000 in
theorem do_keep (h : LFt w0 w tb cap F M) (x : TOp × Value) (hp : x.1.path.size ≤ 1000000) (ho : x.1.old.size ≤ 1000000) (hl : x.1.data.length ≤ 1000000) (hr : -9223372036854775808 ≤ x.1.at_ ∧ x.1.at_ ≤ 9223372036854775807)
    (hsrc : SrcG 1 w x.2 x.1.data.length (u8s x.1.data)) (hb : ∀ y ∈ x.1.data, 0 ≤ y ∧ y < 256) :
    Calls Try.prog 24 #[.iface 25 (.pointer (some ⟨tb, 0, none⟩)), opT x] w fun e w' => e = .returned (.tuple #[.int .i64 (doN M cap x.1).1, .int .i64 (doN M cap x.1).2.1]) ∧ ∃ F', LFt w0 w' tb cap F' (doN M cap x.1).2.2 ∧ Fr F w w' := by
  obtain ⟨⟨kind, path, old, at_, data⟩, v⟩ := x
  unfold opT
  dsimp only at hp ho hl hr hsrc hb ⊢
  have hbw : Below w.heap.size w (w.alloc (.cells #[.int .i64 kind, .string path, .string old, .int .i64 at_, v] 54)) := (Below.refl _ w).alloc (Nat.le_refl _) _
  have hB := h.below hbw

  by_cases h1 : kind = 1
  · subst h1
    have HC := Lib.hid ((create_any hB.at_ path hp).mono fun _ _ q => And.intro q.1 (h.leave hbw q.2 (hB.good.make path false)))
    have HRES : Hid (doN M cap ⟨1, path, old, at_, data⟩ = makeN M cap path false) := Lib.hid (by unfold doN; dsimp only; rw [if_pos rfl])
    generalize makeN M cap path false = r at *
    clear h hp ho hl hsrc hb hr hbw hB
    go_enter Try.func24, Try.ntmps24
    go_wp2_with fail
    refine HC.out.mono ?_
    rintro e w1 ⟨rfl, hl1⟩
    have HL := Lib.hid hl1
    clear hl1 HC
    go_wp2_with fail
    go_ret2
    rw [HRES.out]
    exact ⟨rfl, HL.out⟩
  by_cases h2 : kind = 2
  · subst h2
    have HC := Lib.hid ((mkdir_any hB.at_ path hp).mono fun _ _ q => And.intro q.1 (h.leave hbw q.2 (hB.good.make path true)))
    have HRES : Hid (doN M cap ⟨2, path, old, at_, data⟩ = makeN M cap path true) := Lib.hid (by unfold doN; dsimp only; rw [if_neg (by decide)]; rw [if_pos rfl])
    generalize makeN M cap path true = r at *
    clear h hp ho hl hsrc hb hr hbw hB
    go_enter Try.func24, Try.ntmps24
    go_wp2_with fail
    refine HC.out.mono ?_
    rintro e w1 ⟨rfl, hl1⟩
    have HL := Lib.hid hl1
    clear hl1 HC
    go_wp2_with fail
    go_ret2
    rw [HRES.out]
    exact ⟨rfl, HL.out⟩
  by_cases h3 : kind = 3
  · subst h3
    have HC := Lib.hid ((link_any hB.at_ hB.good.1 old path ho hp).mono fun _ _ q => And.intro q.1 (h.leave hbw q.2 (hB.good.link old path)))
    have HRES : Hid (doN M cap ⟨3, path, old, at_, data⟩ = (0, linkN M old path)) := Lib.hid (by unfold doN; dsimp only; rw [if_neg (by decide)]; rw [if_neg (by decide)]; rw [if_pos rfl])
    generalize linkN M old path = r at *
    clear h hp ho hl hsrc hb hr hbw hB
    go_enter Try.func24, Try.ntmps24
    go_wp2_with fail
    refine HC.out.mono ?_
    rintro e w1 ⟨rfl, hl1⟩
    have HL := Lib.hid hl1
    clear hl1 HC
    go_wp2_with fail
    go_ret2
    rw [HRES.out]
    exact ⟨rfl, HL.out⟩
  by_cases h4 : kind = 4
  · subst h4
    have HC := Lib.hid ((unlink_any hB.at_ hB.good.1 path hp).mono fun _ _ q => And.intro q.1 (h.leave hbw q.2 (hB.good.gone path false)))
    have HRES : Hid (doN M cap ⟨4, path, old, at_, data⟩ = (0, goneN M path false)) := Lib.hid (by unfold doN; dsimp only; rw [if_neg (by decide)]; rw [if_neg (by decide)]; rw [if_neg (by decide)]; rw [if_pos rfl])
    generalize goneN M path false = r at *
    clear h hp ho hl hsrc hb hr hbw hB
    go_enter Try.func24, Try.ntmps24
    go_wp2_with fail
    refine HC.out.mono ?_
    rintro e w1 ⟨rfl, hl1⟩
    have HL := Lib.hid hl1
    clear hl1 HC
    go_wp2_with fail
    go_ret2
    rw [HRES.out]
    exact ⟨rfl, HL.out⟩
  by_cases h5 : kind = 5
  · subst h5
    have HC := Lib.hid ((rmdir_any hB.at_ hB.good.1 path hp).mono fun _ _ q => And.intro q.1 (h.leave hbw q.2 (hB.good.gone path true)))
    have HRES : Hid (doN M cap ⟨5, path, old, at_, data⟩ = (0, goneN M path true)) := Lib.hid (by unfold doN; dsimp only; rw [if_neg (by decide)]; rw [if_neg (by decide)]; rw [if_neg (by decide)]; rw [if_neg (by decide)]; rw [if_pos rfl])
    generalize goneN M path true = r at *
    clear h hp ho hl hsrc hb hr hbw hB
    go_enter Try.func24, Try.ntmps24
    go_wp2_with fail
    refine HC.out.mono ?_
    rintro e w1 ⟨rfl, hl1⟩
    have HL := Lib.hid hl1
    clear hl1 HC
    go_wp2_with fail
    go_ret2
    rw [HRES.out]
    exact ⟨rfl, HL.out⟩
  by_cases h6 : kind = 6
  · subst h6
    have HC := Lib.hid ((rename_any hB.at_ hB.good old path ho hp).mono fun _ _ q => And.intro q.1 (h.leave hbw q.2 (hB.good.rename old path)))
    have HRES : Hid (doN M cap ⟨6, path, old, at_, data⟩ = (0, renameN M old path)) := Lib.hid (by unfold doN; dsimp only; rw [if_neg (by decide)]; rw [if_neg (by decide)]; rw [if_neg (by decide)]; rw [if_neg (by decide)]; rw [if_neg (by decide)]; rw [if_pos rfl])
    generalize renameN M old path = r at *
    clear h hp ho hl hsrc hb hr hbw hB
    go_enter Try.func24, Try.ntmps24
    go_wp2_with fail
    refine HC.out.mono ?_
    rintro e w1 ⟨rfl, hl1⟩
    have HL := Lib.hid hl1
    clear hl1 HC
    go_wp2_with fail
    go_ret2
    rw [HRES.out]
    exact ⟨rfl, HL.out⟩
  by_cases h7 : kind = 7
  · subst h7
    have HRES : Hid (doN M cap ⟨7, path, old, at_, data⟩ = (0, writeN M path at_ data)) := Lib.hid (by unfold doN; dsimp only; rw [if_neg (by decide)]; rw [if_neg (by decide)]; rw [if_neg (by decide)]; rw [if_neg (by decide)]; rw [if_neg (by decide)]; rw [if_neg (by decide)]; rw [if_pos rfl])
    obtain ⟨va0, vc0, hv0, -⟩ := id hsrc
    subst hv0
    have hF0 := hB
    have HBW := Lib.hid hbw
    have hbx : (w.alloc (.cells #[.int .i64 7, .string path, .string old, .int .i64 at_, .slice va0 data.length vc0] 54)).heap[w.heap.size]? = some (.cells #[.int .i64 7, .string path, .string old, .int .i64 at_, .slice va0 data.length vc0] 54 (0, 0)) := blk_new rfl
    have HF0 := Lib.hid hF0; have HBX := Lib.hid hbx; have HP := Lib.hid hp; have HLEN := Lib.hid hl; have HR := Lib.hid hr; have HBY := Lib.hid hb
    have HSRC := Lib.hid ((hsrc.below hbw).below ((Below.refl (w.alloc (.cells #[.int .i64 7, .string path, .string old, .int .i64 at_, .slice va0 data.length vc0] 54)).heap.size (w.alloc (.cells #[.int .i64 7, .string path, .string old, .int .i64 at_, .slice va0 data.length vc0] 54))).alloc (Nat.le_refl _) (.cells #[] 5)))
    have OW : Hid (((w.alloc (.cells #[.int .i64 7, .string path, .string old, .int .i64 at_, .slice va0 data.length vc0] 54)).alloc (.cells #[] 5)).ownsRow (w.alloc (.cells #[.int .i64 7, .string path, .string old, .int .i64 at_, .slice va0 data.length vc0] 54)).heap.size 5 1 (.slice (some ⟨(w.alloc (.cells #[.int .i64 7, .string path, .string old, .int .i64 at_, .slice va0 data.length vc0] 54)).heap.size, 0, none⟩) 0 0) 0 []) := Lib.hid ⟨rfl, .inr ⟨(w.alloc (.cells #[.int .i64 7, .string path, .string old, .int .i64 at_, .slice va0 data.length vc0] 54)).heap.size, 0, #[], rfl, Nat.le_refl _, blk_new rfl, Nat.le_refl _, by decide, rfl, rfl⟩⟩
    have hzz : (w.alloc (.cells #[.int .i64 7, .string path, .string old, .int .i64 at_, .slice va0 data.length vc0] 54)).heap.size ≤ ((w.alloc (.cells #[.int .i64 7, .string path, .string old, .int .i64 at_, .slice va0 data.length vc0] 54)).alloc (.cells #[] 5)).heap.size := by simp
    have hs1 : (w.alloc (.cells #[.int .i64 7, .string path, .string old, .int .i64 at_, .slice va0 data.length vc0] 54)).heap.size = w.heap.size + 1 := by simp
    have HS1 := Lib.hid hs1
    have ow1 := OW.out
    rw [hs1] at ow1
    have OW1 : Hid (((w.alloc (.cells #[.int .i64 7, .string path, .string old, .int .i64 at_, .slice va0 data.length vc0] 54)).alloc (.cells #[] 5)).ownsRow (w.heap.size + 1) 5 1 (.slice (some ⟨w.heap.size + 1, 0, none⟩) 0 0) 0 []) := Lib.hid ow1
    have hz1 : w.heap.size + 1 ≤ ((w.alloc (.cells #[.int .i64 7, .string path, .string old, .int .i64 at_, .slice va0 data.length vc0] 54)).alloc (.cells #[] 5)).heap.size := by simp
    clear hs1 ow1
    clear h hF0 hbx hp ho hl hsrc hb hr hbw hB
    go_enter Try.func24, Try.ntmps24
    go_wp2_with (refine wpList_append_g (by rfl) (.tmp 57) (.tmp 59) (by rfl) elByte (by rfl) OW1.out (by rfl) HSRC.out (by have := HLEN.out; unfold maxLen; omega) (by have := HLEN.out; omega) hz1 ?_)
    intro v2 w2 ho2 hf2 hv2
    rw [← HS1.out] at ho2 hf2
    clear OW1 hz1
    have hszb : w.heap.size < (w.alloc (.cells #[.int .i64 7, .string path, .string old, .int .i64 at_, .slice va0 data.length vc0] 54)).heap.size := by simp
    generalize (w.alloc (.cells #[.int .i64 7, .string path, .string old, .int .i64 at_, .slice va0 data.length vc0] 54)) = wb at *
    have hbe : Below wb.heap.size wb w2 := ((Below.refl wb.heap.size wb).alloc (Nat.le_refl _) (.cells #[] 5)).trans (hf2.toBelow hzz fun y hy => (OW.out.lt y hy).1)
    have ho2 : w2.ownsRow wb.heap.size 5 1 v2 data.length (u8s data) := ho2
    have HF2 := Lib.hid (HF0.out.below hbe)
    have hbx2 := (hbe.block _ (blk_lt HBX.out)).trans HBX.out
    have hnf : ∀ g, v2.ownBlock = some g → ¬ F g := fun g hg hF => by
      have := (ho2.lt g hg).1
      have := HF0.out.lt g hF
      omega
    obtain ⟨va, vc, rfl⟩ := own_shape ho2
    obtain ⟨g, hg0, hg1, hrow⟩ := byteRow_own (w0 := wb) ho2 (fun u hu => by
      unfold u8s at hu
      obtain ⟨z, _, rfl⟩ := List.mem_map.1 hu
      exact ⟨z, rfl⟩) (Nat.le_refl _) (by have := hbe.size; have := hf2.size; simp at this; omega)
    have hgF : ¬ F g := fun hF => by have := HF0.out.lt g hF; omega
    have hC := write_any HF2.out.at_ HF2.out.good.1 path HP.out at_ HR.out (SrcG.of_own ho2 (u8s_one data)) (fun h0 a c ad e1 e2 hF => by
      injection e1 with e1 _ _
      subst e1
      rcases hrow with q | ⟨q, _⟩
      · omega
      · rw [q] at e2
        injection e2 with e2
        rw [← e2] at hF
        exact hgF hF) HLEN.out
    have HC := Lib.hid hC; have HGF := Lib.hid hgF; have HROW := Lib.hid hrow; have HG1 := Lib.hid hg1; have HG0 := Lib.hid hg0
    have HGW : Hid (w0.heap.size ≤ g) := Lib.hid (Nat.le_trans HF0.out.bel.size hg0)
    have HFR2 : Hid (Fr F w w2) := Lib.hid ((Fr.below HBW.out).trans (Fr.below hbe))
    have HGN : Hid (w.heap.size ≤ g) := Lib.hid (by omega)
    have HGD := Lib.hid (HF2.out.good.write path at_ HBY.out)
    have c1 := cell_blk_some hbx2 (i := 1) rfl
    have c3 := cell_blk_some hbx2 (i := 3) rfl
    generalize writeN M path at_ data = r at *
    clear ho2 hf2 hv2 hbe hbx2 hnf hrow hgF hC hg1 hg0 OW HSRC hzz HBX HF0 hszb
    go_wp2_with fail
    refine HC.out.mono ?_
    rintro e w3 ⟨rfl, hl3⟩
    have hg3 := hl3.2.block g HG1.out HGF.out
    have HROW3 : Hid (ByteRow w3 g data.length va) := Lib.hid (HROW.out.imp id fun ⟨q1, cur, q2, q3⟩ => ⟨q1, cur, by rw [hg3]; exact q2, q3⟩)
    have HFR3 := Lib.hid (HFR2.out.trans hl3.2)
    obtain ⟨F', hF', hn'⟩ := HF2.out.left hl3 HGD.out
    have HF3 := Lib.hid hF'; have HN3 : Hid (¬ F' g) := Lib.hid (hn' g HG1.out HGF.out)
    clear hl3 hg3 hF' hn' HC HROW c1 c3
    generalize data.length = n at *
    have hn6 : n ≤ 1000000 := HLEN.out
    go_wp2_with fail
    go_loopw [70] (fun i wr => ∃ k : Nat, k ≤ n ∧ i = .int .i64 k ∧ Fr (fun x => x = g) w3 wr ∧ ByteRow wr g n va) (fun i _ => n - (RowKit.intOf i).toNat)
    case atStart => exact ⟨0, Nat.zero_le _, rfl, Fr.refl _ _, HROW3.out⟩
    case round =>
      obtain ⟨k, hk, rfl, hfr, hrw⟩ := hrel
      have HFR := Lib.hid hfr
      clear hfr HROW3
      by_cases hlt : k < n
      · rcases hrw with h0 | ⟨rfl, cur, hbb, hz⟩
        · omega
        · obtain ⟨z, hz1⟩ := hz k hlt
          have c1 := cell_blk_some hbb hz1
          have f1 := free_blk (i := k) hbb
          have hnew := blk_set (i := k) hbb (.int .u8 (IntKind.u8.wrap (z + 1)))
          have hks : k < cur.size := (Array.getElem?_eq_some_iff.1 hz1).1
          have hz2 : ∀ j, j < n → ∃ z', (cur.setIfInBounds k (.int .u8 (IntKind.u8.wrap (z + 1))))[j]? = some (.int .u8 z') := fun j hj => by
            by_cases hkj : k = j
            · subst hkj
              exact ⟨_, by rw [Array.getElem?_setIfInBounds, if_pos rfl, if_pos hks]⟩
            · rw [Array.getElem?_setIfInBounds, if_neg hkj]
              exact hz j hj
          have m1 : (k : Int) < (n : Int) := by omega
          have m2 : (0 : Int) ≤ (k : Int) := by omega
          have HN := Lib.hid hnew; have HZ := Lib.hid hz2
          clear hbb hz hz1 hnew hz2 hks
          go_wp2_with fail
          go_roundw
          case rel => exact ⟨k + 1, by omega, by go_num, HFR.out.setCell ⟨g, k, none⟩ rfl _, .inr ⟨rfl, _, HN.out, HZ.out⟩⟩
          case measure => simp [RowKit.intOf]; omega
      · obtain rfl : k = n := by omega
        have HEND := Lib.hid (HF3.out.other HFR.out (fun b hb => by rw [hb]; exact HGW.out) (fun b hb e => HN3.out (by rw [← e]; exact hb)))
        have HFE := Lib.hid (HFR3.out.trans' HFR.out fun x hx e => absurd hx (by have := HGN.out; omega))
        clear hrw HFR
        go_wp2_with fail
        go_ret2
        rw [HRES.out]
        exact ⟨rfl, F', HEND.out, HFE.out⟩
  by_cases h8 : kind = 8
  · subst h8
    have HC := Lib.hid ((truncate_any hB.at_ hB.good.1 path hp at_ hr).mono fun _ _ q => And.intro q.1 (h.leave hbw q.2 (hB.good.trunc path at_)))
    have HRES : Hid (doN M cap ⟨8, path, old, at_, data⟩ = (0, truncN M path at_)) := Lib.hid (by unfold doN; dsimp only; rw [if_neg (by decide)]; rw [if_neg (by decide)]; rw [if_neg (by decide)]; rw [if_neg (by decide)]; rw [if_neg (by decide)]; rw [if_neg (by decide)]; rw [if_neg (by decide)]; rw [if_pos rfl])
    generalize truncN M path at_ = r at *
    clear h hp ho hl hsrc hb hr hbw hB
    go_enter Try.func24, Try.ntmps24
    go_wp2_with fail
    refine HC.out.mono ?_
    rintro e w1 ⟨rfl, hl1⟩
    have HL := Lib.hid hl1
    clear hl1 HC
    go_wp2_with fail
    go_ret2
    rw [HRES.out]
    exact ⟨rfl, HL.out⟩
  have q1 : (kind == 1) = false := by simp [h1]
  have q2 : (kind == 2) = false := by simp [h2]
  have q3 : (kind == 3) = false := by simp [h3]
  have q4 : (kind == 4) = false := by simp [h4]
  have q5 : (kind == 5) = false := by simp [h5]
  have q6 : (kind == 6) = false := by simp [h6]
  have q7 : (kind == 7) = false := by simp [h7]
  have q8 : (kind == 8) = false := by simp [h8]
  have HRES : Hid (doN M cap ⟨kind, path, old, at_, data⟩ = (0, 0, M)) := Lib.hid (by
    unfold doN
    rw [if_neg h1, if_neg h2, if_neg h3, if_neg h4, if_neg h5, if_neg h6, if_neg h7, if_neg h8])
  have HL := Lib.hid (show ∃ F', LFt w0 _ tb cap F' M ∧ Fr F w _ from ⟨F, hB, Fr.below hbw⟩)
  clear h h1 h2 h3 h4 h5 h6 h7 h8 hp ho hl hsrc hb hr hbw hB
  go_enter Try.func24, Try.ntmps24
  go_wp2_with fail
  go_ret2
  rw [HRES.out]
  exact ⟨rfl, HL.out⟩
end
end Go.Proofs.Ytoofcnehoffllaa

namespace Go.Proofs.Ytoofcnehoffllaa
open Go.RowKit

/-- A row of 201 numbers. -/
def rowN (f : Nat → Int) : Array Value := Array.ofFn (n := 201) fun i => .int .i64 (f i.val)
theorem rowN_get {f : Nat → Int} {j : Nat} (h : j < 201) : (rowN f)[j]? = some (.int .i64 (f j)) := by
  unfold rowN
  rw [Array.getElem?_ofFn, dif_pos h]
theorem rowN_set {f : Nat → Int} {j : Nat} {z : Int} : (rowN f).setIfInBounds j (.int .i64 z) = rowN fun i => if i = j then z else f i := by
  apply Array.ext_getElem?
  intro i
  unfold rowN
  simp only [Array.getElem?_setIfInBounds, Array.getElem?_ofFn, Array.size_ofFn]
  by_cases h : j = i
  · subst h
    by_cases h2 : j < 201
    · simp [h2]
    · simp [h2]
  · rw [if_neg h]
    by_cases h2 : i < 201
    · rw [dif_pos h2, dif_pos h2, if_neg (fun e => h e.symm)]
    · rw [dif_neg h2, dif_neg h2]
theorem rowN_zero : rowN (fun _ => 0) = Array.replicate 201 (.int .i64 0) := by
  apply Array.ext_getElem?
  intro i
  unfold rowN
  simp [Array.getElem?_ofFn, Array.getElem?_replicate]
theorem rowN_size {f : Nat → Int} : (rowN f).size = 201 := by unfold rowN; simp
section
variable {w0 w w' wb : World} {tb cap : Nat} {M M' : TM} {F : Nat → Prop} {v : Value} {l : List ByteArray}
/-- Texts that lie beside what may turn. -/
def Keeps (F : Nat → Prop) (w : World) (v : Value) (l : List ByteArray) : Prop := ∀ w', Fr F w w' → StrsAt w'.heap.size w' v l
theorem Keeps.below (h : Keeps F w v l) (hb : Below w.heap.size w w') : Keeps F w' v l := fun w'' hf => h w'' ((Fr.below hb).trans hf)
theorem Keeps.own {B : Nat} (h : w'.ownsRow B 9 1 v l.length (l.map Value.string)) (hF : ∀ b, F b → b < B) : Keeps F w' v l := fun w'' hf =>
  StrsAt.own (own_frame h hf fun g hg hFg => by have := (World.ownsRow.lt h g hg).1; have := hF g hFg; omega)
theorem Keeps.shape (h : Keeps F w v l) : ∃ a c, v = .slice a l.length c := (h w (Fr.refl F w)).shape
/-- What stands ahead of each round. -/
structure WhSt (W w : World) (tb : Nat) (F : Nat → Prop) (M : TM) (v : Value) (l : List ByteArray) : Prop where
  lft : LFt W w tb 13 F M
  wk : WalkIs M l
  len : l.length ≤ 20100
  keeps : Keeps F w v l
theorem WhSt.below (h : WhSt w0 w tb F M v l) (hb : Below w.heap.size w w') : WhSt w0 w' tb F M v l := ⟨h.lft.below hb, h.wk, h.len, h.keeps.below hb⟩
end
/-- What stands ahead of each of the paths: the rows of numbers. -/
structure InSt (w7 w : World) (bn : Nat) (M : TM) (Q : List (List ByteArray)) : Prop where
  fr : Fr (fun b => b = bn ∨ b = bn + 1) w7 w
  nm : w.heap[bn]? = some (.cells (rowN fun i => ((cntN M Q i : Nat) : Int)) 57 (0, 0))
  lk : w.heap[bn + 1]? = some (.cells (rowN fun i => lnkN M Q i) 57 (0, 0))
theorem cell_fr' {S : Nat → Prop} {w w' : World} (hf : Fr S w w') {g o : Nat} (hg : g < w.heap.size) (hs : ¬ S g) : w'.cell? ⟨g, o, none⟩ = w.cell? ⟨g, o, none⟩ :=
  World.cell?_of_block (w := w) (a := ⟨g, o, none⟩) (hf.block g hg hs)
theorem lis_take {LL Q : List (List ByteArray)} (n : Nat) : lisN LL (Q.take n) ≤ lisN LL Q := by
  have h : lisN LL Q = lisN LL (Q.take n) + lisN LL (Q.drop n) := by
    unfold lisN
    rw [← List.sum_append, ← List.map_append, List.take_append_drop]
  omega
section
variable {w7 wr wc w' : World} {bn j : Nat} {M : TM} {Q : List (List ByteArray)} {q : List ByteArray}
theorem InSt.below (h : InSt w7 wr bn M Q) (hb : Below wr.heap.size wr w') : InSt w7 w' bn M Q :=
  ⟨h.fr.trans (Fr.below hb), (hb.block bn (blk_lt h.nm)).trans h.nm, (hb.block (bn + 1) (blk_lt h.lk)).trans h.lk⟩
/-- One path more. -/
theorem InSt.step (h : InSt w7 wr bn M Q) (hf : Fr (fun b => b = bn ∨ b = bn + 1) wr wc) (hn : wc.heap[bn]? = some (.cells (rowN fun i => ((cntN M Q i : Nat) : Int)) 57 (0, 0)))
    (hl : wc.heap[bn + 1]? = some (.cells (rowN fun i => lnkN M Q i) 57 (0, 0))) (hq : goE (entN M) 2 q = some j) :
    InSt w7 ((wc.setCell ⟨bn, j, none⟩ (.int .i64 (((cntN M Q j : Nat) : Int) + 1))).setCell ⟨bn + 1, j, none⟩ (.int .i64 (lkN M j))) bn M (Q ++ [q]) := by
  refine ⟨((h.fr.trans hf).setCell ⟨bn, j, none⟩ (.inl rfl) _).setCell ⟨bn + 1, j, none⟩ (.inr rfl) _, ?_, ?_⟩
  · have h1 := blk_set hn (i := j) (.int .i64 (((cntN M Q j : Nat) : Int) + 1))
    rw [rowN_set] at h1
    have h2 := ((Fr.refl (fun b => b = bn + 1) (wc.setCell ⟨bn, j, none⟩ (.int .i64 (((cntN M Q j : Nat) : Int) + 1)))).setCell ⟨bn + 1, j, none⟩ rfl (.int .i64 (lkN M j))).block bn (blk_lt h1) (by omega)
    rw [h2, h1]
    have : (fun i => if i = j then ((cntN M Q j : Nat) : Int) + 1 else ((cntN M Q i : Nat) : Int)) = fun i => ((cntN M (Q ++ [q]) i : Nat) : Int) := by
      funext i
      rw [cnt_snoc hq]
      by_cases e : i = j
      · rw [if_pos e, if_pos e, e]; rfl
      · rw [if_neg e, if_neg e]; rfl
    rw [this]
  · have h1 := ((Fr.refl (fun b => b = bn) wc).setCell ⟨bn, j, none⟩ rfl (.int .i64 (((cntN M Q j : Nat) : Int) + 1))).block (bn + 1) (blk_lt hl) (by omega)
    have h2 := blk_set (h1.trans hl) (i := j) (.int .i64 (lkN M j))
    rw [rowN_set] at h2
    rw [h2]
    have : (fun i => if i = j then lkN M j else lnkN M Q i) = fun i => lnkN M (Q ++ [q]) i := by
      funext i
      rw [lnk_snoc hq]
    rw [this]
end
theorem look_pos {M : TM} {s : ByteArray} {j : Nat} (h : lookN M s = .inl j) : 0 < s.size := by
  rcases Nat.eq_zero_or_pos s.size with h0 | h0
  · exfalso
    have hs : s = ⟨#[]⟩ := by
      apply ByteArray.ext
      exact Array.eq_empty_of_size_eq_zero h0
    subst hs
    have he : splitE ⟨#[]⟩ ≠ 0 := by decide +kernel
    unfold lookN at h
    rw [if_pos he] at h
    cases h
  · exact h0
theorem last_byte {s : ByteArray} {n : Nat} {d : Bool} (hn : s.size = n + 1) (h : (s.data.toList.getLast? == some 47) = d) : ∃ h : n < s.size, ((((s[n]'h).toNat : Nat) : Int) == 47) = d := by
  refine ⟨by omega, ?_⟩
  have hl : s.data.toList.getLast? = some (s[n]'(by omega)) := by
    have h1 := Lib.data_getElem? s n (by omega)
    rw [List.getLast?_eq_getElem?, ← Lib.size_eq, show s.size - 1 = n by omega]
    exact h1
  rw [hl] at h
  rw [← h, Bool.eq_iff_iff, beq_iff_eq, beq_iff_eq]
  generalize s[n]'(by omega) = y
  constructor
  · intro e
    have : y.toNat = 47 := by omega
    have : y = 47 := UInt8.toNat_inj.1 this
    rw [this]
  · intro e
    injection e with e
    rw [e]; rfl
theorem elStrT : ElT Try.prog 34 9 1 16 (.string ⟨#[]⟩) := ⟨Try.underlying34, by kernel_rfl, by kernel_rfl, by decide⟩
set_option maxRecDepth 100000 in
theorem rowN_start : Try.zeroCells57 = rowN fun _ => 0 := by rw [rowN_zero]; first | rfl | kernel_rfl
/-- Two rows of numbers, and a third block. -/
theorem two_rows (w : World) (o : Obj) :
    (((w.alloc (.cells Try.zeroCells57 57)).alloc (.cells Try.zeroCells57 57)).alloc o).heap[w.heap.size]? = some (.cells (rowN fun _ => 0) 57 (0, 0)) ∧
    (((w.alloc (.cells Try.zeroCells57 57)).alloc (.cells Try.zeroCells57 57)).alloc o).heap[w.heap.size + 1]? = some (.cells (rowN fun _ => 0) 57 (0, 0)) ∧
    (((w.alloc (.cells Try.zeroCells57 57)).alloc (.cells Try.zeroCells57 57)).alloc o).heap[w.heap.size + 1 + 1]? = some o ∧
    Below w.heap.size w (((w.alloc (.cells Try.zeroCells57 57)).alloc (.cells Try.zeroCells57 57)).alloc o) ∧
    (((w.alloc (.cells Try.zeroCells57 57)).alloc (.cells Try.zeroCells57 57)).alloc o).heap.size = w.heap.size + 3 := by
  rw [rowN_start]
  generalize rowN (fun _ => 0) = c
  refine ⟨?_, ?_, ?_, (((Below.refl _ w).alloc (Nat.le_refl _) _).alloc (by simp) _).alloc (by simp; omega) _, by simp⟩
  · show (((w.heap.push _).push _).push _)[_]? = _
    rw [Array.getElem?_push, if_neg (by simp; omega), Array.getElem?_push, if_neg (by simp), Array.getElem?_push, if_pos rfl]
  · show (((w.heap.push _).push _).push _)[_]? = _
    rw [Array.getElem?_push, if_neg (by simp), Array.getElem?_push, if_pos (by simp)]
  · show (((w.heap.push _).push _).push _)[_]? = _
    rw [Array.getElem?_push, if_pos (by simp)]
set_option maxHeartbeats 16000000 in
set_option maxRecDepth 100000 in
theorem lawWhole_any (v0 : Value) (ops : List (TOp × Value)) (W : World) (hx : TOpsAt W v0 ops) :
    Calls Try.prog 7 #[v0] W fun e w' => e = .returned (.bool true) ∧ Below W.heap.size W w' := by
  have HA := Lib.hid awake_any
  obtain ⟨xa, xc, rfl, hxx⟩ := hx
  have HX := Lib.hid hxx
  clear hxx
  go_enter Try.func7, Try.ntmps7
  go_wp2_with fail
  refine (HA.out _).mono ?_
  rintro e w1 ⟨rfl, hb1⟩
  have HB1 := Lib.hid hb1
  have HN := Lib.hid (new_any (n := 12) (by decide) (by decide) w1)
  clear hb1 HA
  go_wp2_with fail
  refine HN.out.mono ?_
  rintro e w2 ⟨tb, nb, eb, b2, rfl, hT, h1, h2, h3, h4, hb2⟩
  have hs1 := HB1.out.size
  obtain ⟨F0, hF0⟩ := (LAt.new (w0 := W) (by decide) hT (by omega) (by omega) (by omega) (by omega) (below_call HB1.out hb2 (Nat.le_refl _))).ft
  have L0 := Lib.hid hF0
  have HW0 := Lib.hid (walk_any hF0.at_ hF0.good.1 hF0.good.2)
  clear HN hT h1 h2 h3 h4 hb2 hs1 hF0
  go_wp2_with fail
  refine HW0.out.mono ?_
  rintro e w3 ⟨v, l, rfl, hl, hlen, hown, hb3⟩
  have S0 : Hid (WhSt W w3 tb F0 newM v l) := Lib.hid ⟨L0.out.below hb3, hl, hlen, Keeps.own hown L0.out.lt⟩
  clear HW0 L0 hl hlen hown hb3
  go_wp2_with fail
  go_loopw [6, 5] (fun i vv wy => ∃ (t : Nat) (F : Nat → Prop) (M : TM) (l : List ByteArray), t ≤ ops.length ∧ t ≤ 40 ∧ i = .int .i64 t ∧ WhSt W wy tb F M vv l) (fun i _ _ => ops.length - (RowKit.intOf i).toNat)
  case atStart => exact ⟨0, F0, newM, l, by omega, by omega, rfl, S0.out⟩
  case round =>
    obtain ⟨t, F, M, l, ht, ht40, rfl, hst⟩ := hrel
    have HST := Lib.hid hst
    clear hst S0
    by_cases htl : t < ops.length ∧ t < 40
    · obtain ⟨c1, c2⟩ := htl
      have q3 : decide ((t : Int) < (ops.length : Int)) = true := dec_true (by omega)
      have q4 : decide ((t : Int) < 40) = true := dec_true (by omega)
      have q5 : (t : Int) < (ops.length : Int) := by omega
      have q6 : (0 : Int) ≤ (t : Int) := by omega
      obtain ⟨g, o, rfl, hg, hat⟩ := HX.out (by omega)
      obtain ⟨x, hxt⟩ : ∃ x, ops[t]? = some x := ⟨_, List.getElem?_eq_getElem c1⟩
      obtain ⟨k0, k1, k2, k3, k4, hrng, hdat, hbyt⟩ := (hat t x hxt).below hg HST.out.lft.bel
      have HF := Lib.hid (fits_any x (by obtain ⟨a, c, h, _⟩ := hdat; exact ⟨a, c, h⟩) wr)
      have HRNG := Lib.hid hrng.2; have HDAT := Lib.hid hdat; have HBYT := Lib.hid hbyt; have HAT := Lib.hid (hat t x hxt); have HG := Lib.hid hg
      clear hat hxt hrng hdat hbyt hg
      unfold opT at HF
      cases hfit : fitsN x.1 with
      | false =>
        rw [hfit] at HF
        clear hfit
        go_wp2_with fail
        refine HF.out.mono ?_
        rintro e w3 ⟨rfl, hb3⟩
        have HL := Lib.hid (HST.out.below hb3)
        clear hb3
        go_wp2_with fail
        go_roundw
        case rel => exact ⟨t + 1, F, M, l, by omega, by omega, by go_num, HL.out⟩
        case measure => simp only [RowKit.intOf]; omega
      | true =>
        have hsz : x.1.path.size ≤ 300 ∧ x.1.old.size ≤ 300 ∧ x.1.data.length ≤ 4200 := by
          unfold fitsN at hfit
          simp only [Bool.and_eq_true, decide_eq_true_eq] at hfit
          exact ⟨hfit.1.1, hfit.1.2, hfit.2⟩
        have HSZ := Lib.hid hsz
        rw [hfit] at HF
        clear hfit hsz
        go_wp2_with fail
        refine HF.out.mono ?_
        rintro e w3 ⟨rfl, hb3⟩
        have HL := Lib.hid (HST.out.below hb3)
        obtain ⟨z0, z1, z2, z3, z4, -⟩ := HAT.out.below HG.out HL.out.lft.bel
        have HD := Lib.hid (do_keep HL.out.lft x (by have := HSZ.out.1; omega) (by have := HSZ.out.2.1; omega) (by have := HSZ.out.2.2; omega) HRNG.out (HDAT.out.src HL.out.lft.bel) HBYT.out)
        have HREF := Lib.hid (do_refused (M := M) (cap := 13) (o := x.1))
        unfold opT at HD
        clear hb3 HF k0 k1 k2 k3 k4
        go_wp2_with fail
        refine HD.out.mono ?_
        rintro e w4 ⟨rfl, F', hl4, hfr4⟩
        have HL4 := Lib.hid hl4
        have HK4 := Lib.hid (HL.out.keeps w4 hfr4)
        have HW4 := Lib.hid (walk_any hl4.at_ hl4.good.1 hl4.good.2)
        clear hl4 hfr4 HD z0 z1 z2 z3 z4
        generalize (doN M 13 x.1).1 = r1 at *
        generalize (doN M 13 x.1).2.1 = r2 at *
        generalize (doN M 13 x.1).2.2 = M' at *
        go_wp2_with fail
        refine HW4.out.mono ?_
        rintro e w5 ⟨v2, l2, rfl, hl2, hlen2, hown2, hb5⟩
        have HWK := Lib.hid hl2; have HLEN := Lib.hid hlen2
        have HL5 := Lib.hid (HL4.out.below hb5)
        have HKE := Lib.hid (Keeps.own hown2 HL4.out.lt)
        have HS5 := Lib.hid ((HK4.out.below hb5).mono hb5.size)
        have HS2 := Lib.hid (StrsAt.own hown2)
        clear hl2 hlen2 hb5 HW4 HK4
        have HOWN := Lib.hid (own_frame hown2 (S := fun _ => False) (Fr.below (Below.refl _ w5)) fun _ _ => id)
        clear hown2
        by_cases hz : r2 = 0
        focus
          have q7 : (r2 != 0) = false := by simp [hz]
          clear hz HS2 HS5 HREF
          obtain ⟨w6, hw6⟩ : ∃ w6, w6 = w5 := ⟨_, rfl⟩
          subst hw6
        rotate_left
        focus
          have q7 : (r2 != 0) = true := by simp [hz]
          have hM := HREF.out hz
          subst hM
          have hll := WalkIs.eq HWK.out HST.out.wk
          subst hll
          have HTX := Lib.hid (texts_any HS2.out HS5.out (Nat.le_refl _) (by have := HLEN.out; omega) (by have := HLEN.out; omega))
          rw [decide_eq_true (rfl : l2 = l2)] at HTX
          clear hz
          go_wp2_with fail
          refine HTX.out.mono ?_
          rintro e w6 ⟨rfl, hb6⟩
          have HL5' := Lib.hid (HL5.out.below hb6)
          have HKE' := Lib.hid (HKE.out.below hb6)
          have HOWN' := Lib.hid (own_frame HOWN.out (S := fun _ => False) (Fr.below hb6) fun _ _ => id)
          clear hb6 HTX HL5 HKE HOWN HREF HS2 HS5
          have HL5 := HL5'; have HKE := HKE'; have HOWN := HOWN'
          clear HL5' HKE' HOWN'
        all_goals
          obtain ⟨LL, hBL, hlw⟩ := walk_list HWK.out
          have HBL := Lib.hid hBL; have HLW := Lib.hid hlw
          clear hBL hlw
          have HTW := Lib.hid (two_rows w6 (.cells #[.string ⟨#[47]⟩] 9 (0, 0)))
          have HOA := Lib.hid (own_block (E := 9) (k := 1) (n := 1) (c := 1) (B := w6.heap.size) (xs := [Value.string ⟨#[47]⟩]) HTW.out.2.2.1 rfl rfl (by omega) (by decide))
          have HSR := Lib.hid (SrcG.of_own (own_frame HOWN.out (S := fun _ => False) (Fr.below HTW.out.2.2.2.1) fun _ _ => id) (fun u hu => by
            obtain ⟨x, -, rfl⟩ := List.mem_map.1 hu
            rfl))
          go_wp2_with (refine wpList_append_g (by rfl) (.tmp 70) (.tmp 71) (by rfl) elStrT (by rfl) HOA.out (by rfl) HSR.out (by have := HLEN.out; unfold maxLen; omega) (by have := HLEN.out; omega) HTW.out.2.2.2.1.size ?_)
          rintro v3 w7 hown3 hfr3 hblk3
          have hB7 : Below w6.heap.size w6 w7 := HTW.out.2.2.2.1.trans (hfr3.toBelow (by rw [HTW.out.2.2.2.2]; omega) fun x hx => by
            have hx : some (w6.heap.size + 1 + 1) = some x := hx
            injection hx with hx; omega)
          have HB7 := Lib.hid hB7
          have hN0 := (hfr3.block w6.heap.size (by rw [HTW.out.2.2.2.2]; omega) (fun hx => by
            have hx : some (w6.heap.size + 1 + 1) = some w6.heap.size := hx
            injection hx with hx; omega)).trans HTW.out.1
          have hN1 := (hfr3.block (w6.heap.size + 1) (by rw [HTW.out.2.2.2.2]; omega) (fun hx => by
            have hx : some (w6.heap.size + 1 + 1) = some (w6.heap.size + 1) := hx
            injection hx with hx; omega)).trans HTW.out.2.1
          obtain ⟨gp, cp, rfl, hcp, hgB, hgl, hcell⟩ := own_cells hown3 (by omega)
          have hgp : w6.heap.size + 1 < gp := by
            rcases hblk3 with h | h
            · have h : some gp = some (w6.heap.size + 1 + 1) := h
              injection h with h; omega
            · have h : some gp = some (w6.heap.size + 1 + 1 + 1) := h
              injection h with h; omega
          have HL7 := Lib.hid (HL5.out.below hB7)
          have HK7 : Hid (Keeps (fun b => F' b ∨ b = w6.heap.size ∨ b = w6.heap.size + 1) w7 v2 l2) := Lib.hid fun w'' hf => StrsAt.own (own_frame (own_frame HOWN.out (S := fun _ => False) (Fr.below hB7) fun _ _ => id) hf fun gq hgq h => by
            have h1 := World.ownsRow.lt HOWN.out gq hgq
            rcases h with h | h | h
            · have := HL4.out.lt gq h; omega
            · omega
            · omega)
          have HFL : Hid (∀ b, F' b → b < w6.heap.size) := Lib.hid HL5.out.lt
          have HWB : Hid (W.heap.size ≤ w6.heap.size) := Lib.hid HL5.out.bel.size
          have HQL : Hid ((([] : List ByteArray) :: LL).length = l2.length + 1) := Lib.hid (by rw [HLW.out]; simp)
          have HPC : Hid (∀ (k : Nat) q, (([] : List ByteArray) :: LL)[k]? = some q → w7.cell? ⟨gp, k, none⟩ = some (.string (pathAt M' q))) := Lib.hid fun k q hq => by
            refine hcell k _ ?_
            cases k with
            | zero =>
              have : ([] : List ByteArray) = q := by simpa using hq
              rw [← this, (look_slash HL5.out.good).1]; rfl
            | succ k =>
              rw [List.getElem?_cons_succ] at hq ⊢
              rw [HLW.out, List.map_map, List.getElem?_map, hq]; rfl
          have HI0 : Hid (InSt w7 w7 w6.heap.size M' []) := Lib.hid ⟨Fr.refl _ _, hN0, hN1⟩
          have HGP := Lib.hid hgp; have HGL := Lib.hid hgl
          obtain ⟨va, vc, rfl⟩ := own_shape HOWN.out
          clear hown3 hfr3 hblk3 hB7 hN0 hN1 hcp hgB hgl hcell hgp HB7 HTW HOA HSR HL5 HKE HOWN
          go_wp2_with fail
          generalize w6.heap.size = bn at *
          go_loopw [12, 74] (fun li idx wy => ∃ k : Nat, k ≤ l2.length + 1 ∧ idx = .int .i64 k ∧ li = .int .i64 (lisN LL ((([] : List ByteArray) :: LL).take k)) ∧ InSt w7 wy bn M' ((([] : List ByteArray) :: LL).take k)) (fun _ idx _ => l2.length + 1 - (RowKit.intOf idx).toNat)
          case atStart => exact ⟨0, by omega, rfl, rfl, HI0.out⟩
          case round =>
            obtain ⟨k, hk, rfl, rfl, hin⟩ := hrel
            have HIN := Lib.hid hin
            clear hin HI0
            have HLY := Lib.hid (HL7.out.other HIN.out.fr (fun b hb => by have := HWB.out; rcases hb with h | h <;> omega) (fun b hb hs => by have := HFL.out b hb; rcases hs with h | h <;> omega))
            by_cases hkl : k < l2.length + 1
            · obtain ⟨q, hq⟩ : ∃ q, (([] : List ByteArray) :: LL)[k]? = some q := ⟨_, List.getElem?_eq_getElem (by rw [HQL.out]; exact hkl)⟩
              obtain ⟨j, hj, hj2, hjc, hps, hst, hlast, hlk, hdir⟩ := stat_at HL7.out.good HBL.out (List.mem_of_getElem? hq)
              have k0 := (cell_fr' HIN.out.fr HGL.out (fun hs => by have := HGP.out; rcases hs with h | h <;> omega)).trans (HPC.out k q hq)
              have HST2 := Lib.hid (HLY.out.at0.stat (pathAt M' q) (by omega))
              rw [hst] at HST2
              unfold statV statA at HST2
              dsimp only at HST2
              have hwb := HLY.out.bel
              obtain ⟨n, hn⟩ : ∃ n, (pathAt M' q).size = n + 1 := ⟨(pathAt M' q).size - 1, by have := look_pos hlk; omega⟩
              have j0 : decide ((j : Int) < 2) = false := dec_false (by omega)
              have j1 : decide (12 < (j : Int)) = false := dec_false (by omega)
              have kk0 : (0 : Int) ≤ (k : Int) := by omega
              have kk1 : (k : Int) < 1 + (l2.length : Int) := by omega
              obtain ⟨hn', hl47⟩ := last_byte hn hlast
              have hlen3 := HLEN.out
              have HJ := Lib.hid hj; have HQ := Lib.hid hq; have HLK := Lib.hid hlk; have HDIR := Lib.hid (show ∀ x, isDir M' x = true → x = j → lkN M' x = 1 ∧ datN M' x = [] from fun x hx e => by subst e; exact hdir hx)
              have HKL := Lib.hid hkl; have HJ2 := Lib.hid hj2; have HJC := Lib.hid hjc; have HPS := Lib.hid hps
              clear hst hlast hlk hdir hj hq hps hwb
              have hdk : (isDir M' j = true ∧ (if isDir M' j = true then (2 : Int) else 1) = 2) ∨ (isDir M' j = false ∧ (if isDir M' j = true then (2 : Int) else 1) = 1) := by
                cases isDir M' j
                · exact .inr ⟨rfl, rfl⟩
                · exact .inl ⟨rfl, rfl⟩
              generalize (if isDir M' j = true then (2 : Int) else 1) = kd at *
              generalize hdd : isDir M' j = dd at *
              have HDD := Lib.hid hdd
              clear hdd
              generalize pathAt M' q = ps at *
              go_wp2_with fail
              refine HST2.out.mono ?_
              rintro e w8 ⟨rfl, hb8⟩
              have hba : Below wr.heap.size wr (w8.alloc (.cells #[.int .i64 j, .int .i64 kd, .int .i64 (lkN M' j), .int .i64 ((datN M' j).length : Int)] 39)) := below_call hb8 ((Below.refl w8.heap.size w8).alloc (Nat.le_refl _) _) (Nat.le_refl _)
              have hox : (w8.alloc (.cells #[.int .i64 j, .int .i64 kd, .int .i64 (lkN M' j), .int .i64 ((datN M' j).length : Int)] 39)).heap[w8.heap.size]? = some (.cells #[.int .i64 j, .int .i64 kd, .int .i64 (lkN M' j), .int .i64 ((datN M' j).length : Int)] 39 (0, 0)) := blk_new rfl
              have HX8 := Lib.hid hb8.size
              have HBA := Lib.hid hba; have HOX := Lib.hid hox
              clear hb8 HST2 hba hox
              rcases hdk with ⟨rfl, rfl⟩ | ⟨rfl, rfl⟩
              all_goals
                go_wp2_with fail
                generalize w8.alloc _ = wb at *
                generalize w8.heap.size = xs at *
                have c0 := cell_blk_some HOX.out (i := 0) rfl
                have c1 := cell_blk_some HOX.out (i := 1) rfl
                have c2 := cell_blk_some HOX.out (i := 2) rfl
                have c3 := cell_blk_some HOX.out (i := 3) rfl
                have m0 : (0 : Int) ≤ (n : Int) := by omega
                have m1 : (n : Int) < (ps.size : Int) := by omega
                have m2 : ps.size - 1 = n := by omega
                have m3 : IntKind.i64.wrap (n : Int) = (n : Int) := IntWalk.i64_in _ (by have := HPS.out; omega)
                have m4 : (ps.size : Int) - 1 = (n : Int) := by omega
                clear hn
                go_quiet (fail)
                have HBA2 := Lib.hid (below_drewN HBA.out nq)
                have hox2 : (wb.drewN nq).heap[xs]? = _ := HOX.out
                clear c0 c1 c2 c3 m2 m3 m4 hl47 HBA HOX k0 j0 j1 kk0 kk1
                generalize wb.drewN nq = wc at *
                have d0 := cell_blk_some hox2 (i := 0) rfl
                have d2 := cell_blk_some hox2 (i := 2) rfl
                have hnm := (HBA2.out.block bn (blk_lt HIN.out.nm)).trans HIN.out.nm
                have hlk2 := (HBA2.out.block (bn + 1) (blk_lt HIN.out.lk)).trans HIN.out.lk
                have hbx : bn + 1 < xs := by have := blk_lt HIN.out.lk; have := HX8.out; omega
                have n1 : ¬ bn = xs := by omega
                have n2 : ¬ bn + 1 = xs := by omega
                have n3 : ¬ xs = bn := by omega
                have n4 : ¬ xs = bn + 1 := by omega
                have n5 : ¬ bn = bn + 1 := by omega
                have n6 : ¬ bn + 1 = bn := by omega
                have hcn : cntN M' ((([] : List ByteArray) :: LL).take k) j ≤ 30000 := by
                  have h1 : cntN M' ((([] : List ByteArray) :: LL).take k) j ≤ ((([] : List ByteArray) :: LL).take k).length := List.countP_le_length
                  rw [List.length_take] at h1
                  have := HLEN.out
                  omega
                have e0 := cell_blk_some hnm (rowN_get (j := j) (by have := HJC.out; omega))
                have e1 := cell_blk_some hlk2 (rowN_get (j := j) (by have := HJC.out; omega))
                have m0 : (0 : Int) ≤ (j : Int) := by omega
                have m1 : (j : Int) < 201 := by have := HJC.out; omega
                have m2 : IntKind.i64.wrap (((cntN M' ((([] : List ByteArray) :: LL).take k) j : Nat) : Int) + 1) = ((cntN M' ((([] : List ByteArray) :: LL).take k) j : Nat) : Int) + 1 := IntWalk.i64_in _ (by omega)
                have HCN := Lib.hid hcn; have HOX2 := Lib.hid hox2; have HNM := Lib.hid hnm; have HLK2 := Lib.hid hlk2; have HBX := Lib.hid hbx
                have f0 : wc.frozen? ⟨bn, j, none⟩ = false := by simp [World.frozen?, hnm]
                have f1 : wc.frozen? ⟨bn + 1, j, none⟩ = false := by simp [World.frozen?, hlk2]
                clear hcn hox2 hnm hlk2 hbx
                have hq1 : (([] : List ByteArray) :: LL).take (k + 1) = (([] : List ByteArray) :: LL).take k ++ [q] := by rw [List.take_add_one, HQ.out]; rfl
                have hI1 : InSt w7 ((wc.setCell ⟨bn, j, none⟩ (.int .i64 (((cntN M' ((([] : List ByteArray) :: LL).take k) j : Nat) : Int) + 1))).setCell ⟨bn + 1, j, none⟩ (.int .i64 (lkN M' j))) bn M' ((([] : List ByteArray) :: LL).take (k + 1)) := by
                  rw [hq1]
                  exact HIN.out.step (Fr.below HBA2.out) HNM.out HLK2.out HJ.out
                have HI1 := Lib.hid hI1
                have HLD := Lib.hid (HL7.out.other HI1.out.fr (fun b hb => by have := HWB.out; rcases hb with h | h <;> omega) (fun b hb hs => by have := HFL.out b hb; rcases hs with h | h <;> omega))
                have HLI := Lib.hid (HLD.out.at0.list ps (by have := HPS.out; omega))
                have hox3 : ((wc.setCell ⟨bn, j, none⟩ (.int .i64 (((cntN M' ((([] : List ByteArray) :: LL).take k) j : Nat) : Int) + 1))).setCell ⟨bn + 1, j, none⟩ (.int .i64 (lkN M' j))).heap[xs]? = wc.heap[xs]? :=
                  (((Fr.refl (fun b => b = bn ∨ b = bn + 1) wc).setCell ⟨bn, j, none⟩ (.inl rfl) (.int .i64 (((cntN M' ((([] : List ByteArray) :: LL).take k) j : Nat) : Int) + 1))).setCell ⟨bn + 1, j, none⟩ (.inr rfl) (.int .i64 (lkN M' j))).block xs (blk_lt HOX2.out) (fun h => by have := HBX.out; rcases h with h | h <;> omega)
                have HOX3 := Lib.hid (hox3.trans HOX2.out)
                have HQ1 := Lib.hid hq1
                have HLC : Hid (listC M' ps = if isDir M' j then 0 else 20) := Lib.hid (by unfold listC; rw [HLK.out])
                rw [HDD.out] at HLC
                rw [HLC.out] at HLI
                clear hI1 hox3 hq1 HLC
                go_wp2_with fail
                generalize (wc.setCell ⟨bn, j, none⟩ (.int .i64 (((cntN M' ((([] : List ByteArray) :: LL).take k) j : Nat) : Int) + 1))).setCell ⟨bn + 1, j, none⟩ (.int .i64 (lkN M' j)) = wd at *
                refine HLI.out.mono ?_
                rintro e w9 ⟨lv, ll, rfl, hlo, hown9, hb9⟩
                obtain ⟨la, lc, rfl⟩ := own_shape hown9
                have hfl : LL.countP (fun l => decide (l.dropLast = q)) = ll.length := fiber_len HBL.out HJ.out (by
                  unfold ListOf at hlo
                  rw [HLK.out] at hlo
                  dsimp only at hlo
                  rw [HDD.out] at hlo
                  first
                    | exact ⟨(show ListIs M' j ll from hlo).2.1, (show ListIs M' j ll from hlo).2.2⟩
                    | (have hlo : ll = [] := hlo
                       subst hlo
                       refine ⟨List.nodup_nil, fun s => Iff.intro (fun h => by cases h) (fun h => ?_)⟩
                       obtain ⟨z, hz⟩ := Option.isSome_iff_exists.1 h
                       have := ent_dir hz
                       rw [HDD.out] at this
                       cases this))
                have hls : lisN LL ((([] : List ByteArray) :: LL).take (k + 1)) = lisN LL ((([] : List ByteArray) :: LL).take k) + ll.length := by rw [HQ1.out, lis_snoc, hfl]
                have hlb : lisN LL ((([] : List ByteArray) :: LL).take (k + 1)) ≤ 20100 := by
                  have h1 := lis_take (LL := LL) (Q := ([] : List ByteArray) :: LL) (k + 1)
                  rw [lis_all HBL.out] at h1
                  have := HLEN.out
                  have h2 : l2.length = LL.length := by rw [HLW.out, List.length_map]
                  omega
                rw [hls] at hlb
                have HLS := Lib.hid hls
                have HI2 := Lib.hid (HI1.out.below hb9)
                have o9 := (hb9.block xs (blk_lt HOX3.out)).trans HOX3.out
                have c0 := cell_blk_some o9 (i := 0) rfl
                have c1 := cell_blk_some o9 (i := 1) rfl
                have c2 := cell_blk_some o9 (i := 2) rfl
                have c3 := cell_blk_some o9 (i := 3) rfl
                have p0 : IntKind.i64.wrap (((lisN LL ((([] : List ByteArray) :: LL).take k) : Nat) : Int) + (ll.length : Int)) = ((lisN LL ((([] : List ByteArray) :: LL).take k) : Nat) : Int) + (ll.length : Int) := IntWalk.i64_in _ (by omega)
                have hdf : isDir M' j = true → (lkN M' j != 1) = false ∧ (((datN M' j).length : Int) != 0) = false := fun h => by
                  obtain ⟨h1, h2⟩ := HDIR.out j h rfl
                  rw [h1, h2]
                  exact ⟨rfl, rfl⟩
                rw [HDD.out] at hdf
                first | obtain ⟨p1, p2⟩ := hdf rfl | clear hdf
                clear hlo hown9 hfl hls hlb hb9 o9 d0 d2 e0 e1 f0 f1 m2
                go_wp2_with fail
                go_roundw
                case rel => exact ⟨k + 1, by have := HKL.out; omega, by go_num, by rw [HLS.out]; rfl, HI2.out⟩
                case measure =>
                  have := HKL.out
                  simp only [RowKit.intOf]
                  omega
            · obtain rfl : k = l2.length + 1 := by omega
              have hall : (([] : List ByteArray) :: LL).take (l2.length + 1) = [] :: LL := List.take_of_length_le (by rw [HQL.out]; exact Nat.le_refl _)
              have hI := HIN.out
              rw [hall] at hI ⊢
              have hnm := hI.nm
              have hlk := hI.lk
              have hsame : (fun i => lnkN M' ([] :: LL) i) = fun i => ((cntN M' ([] :: LL) i : Nat) : Int) := by
                funext i
                rw [cnt_all HL7.out.good.1 HBL.out i]
              rw [hsame] at hlk
              rw [lis_all HBL.out, show LL.length = l2.length by rw [HLW.out, List.length_map]]
              have hz := cell_blk_some hnm (rowN_get (j := 2) (by decide))
              rw [cnt_root HL7.out.good.1 HBL.out] at hz
              have hzz : (((1 : Nat) : Int) != 1) = false := rfl
              have hcmp := neq_same (fun i => ((cntN M' ([] :: LL) i : Nat) : Int)) (rowN fun i => ((cntN M' ([] :: LL) i : Nat) : Int)) (fun i hi => rowN_get hi) wr
              have hsz : (Try.prog.info? 57).map (·.size) = some (rowN fun i => ((cntN M' ([] :: LL) i : Nat) : Int)).size := by rw [rowN_size]; kernel_rfl
              have HNM := Lib.hid hnm; have HLK := Lib.hid hlk; have HSZ2 := Lib.hid hsz; have HKEEP : Hid (Keeps F' wr (.slice va l2.length vc) l2) := Lib.hid fun w'' hf => HK7.out w'' ((hI.fr.tell fun b hb => .inr hb).trans (hf.tell fun b hb => .inl hb))
              clear hnm hlk hsz hall hsame hI
              generalize rowN (fun i => ((cntN M' ([] :: LL) i : Nat) : Int)) = cs at *
              go_wp2_with (first
                | refine wpList_load_rowg (by rfl) 57 _ (by rfl) bn (by rfl) _ cs _ _ HNM.out Try.underlying57 rfl HSZ2.out ?_
                | refine wpList_load_rowg (by rfl) 57 _ (by rfl) (bn + 1) (by rfl) _ cs _ _ HLK.out Try.underlying57 rfl HSZ2.out ?_)
              go_roundw
              case rel => exact ⟨t + 1, F', M', l2, by omega, by omega, by go_num, HLY.out, HWK.out, HLEN.out, HKEEP.out⟩
              case measure => simp only [RowKit.intOf]; omega
    · have hq : (decide ((t : Int) < (ops.length : Int)) && decide ((t : Int) < 40)) = false := by
        by_cases h1 : (t : Int) < (ops.length : Int)
        · rw [decide_eq_true h1, decide_eq_false (show ¬ (t : Int) < 40 by omega)]; rfl
        · rw [decide_eq_false h1]; rfl
      by_cases htl1 : t < ops.length
      all_goals
        first
          | (have r1 : decide ((t : Int) < (ops.length : Int)) = true := dec_true (by omega)
             have r2 : decide ((t : Int) < 40) = false := dec_false (by omega)
             have r3 : (t : Int) < (ops.length : Int) := by omega
             have r4 : ¬ (t : Int) < 40 := by omega
             clear hq htl htl1
             go_wp2_with fail)
          | (have r1 : decide ((t : Int) < (ops.length : Int)) = false := dec_false (by omega)
             have r3 : ¬ (t : Int) < (ops.length : Int) := by omega
             clear hq htl htl1
             go_wp2_with fail)
        go_ret
        exact ⟨rfl, HST.out.lft.bel⟩
end Go.Proofs.Ytoofcnehoffllaa
