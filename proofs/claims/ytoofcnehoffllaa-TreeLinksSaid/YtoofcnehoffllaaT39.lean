/- Trees of one file of many names, plainly. -/
/- Walk of the statement TreeLinks: it returns true. -/
import Derived.Test.YtoofcnehoffllaaT37
namespace Go.Proofs.Ytoofcnehoffllaa
open Go.RowKit

/-- The file 3 with the names of a set, and c links. -/
def oneM (T : ByteArray → Bool) (c : Int) : TM := fun x => if x = 2 then some ⟨some fun s => if T s then some 3 else none, [], 1⟩ else if x = 3 then some ⟨none, [], c⟩ else none
section
variable {T : ByteArray → Bool} {c : Int}
theorem one_root : oneM T c 2 = some ⟨some fun s => if T s then some 3 else none, [], 1⟩ := if_pos rfl
theorem one_three : oneM T c 3 = some ⟨none, [], c⟩ := by unfold oneM; rw [if_neg (by decide), if_pos rfl]
theorem one_ent (s : ByteArray) : entN (oneM T c) 2 s = if T s then some 3 else none := by rw [entN_of one_root]
theorem one_ent' : entN (oneM T c) 2 = fun s => if T s then some 3 else none := by funext s; exact one_ent s
theorem one_file : isDir (oneM T c) 3 = false := by rw [isDir_of one_three]; rfl
theorem one_lk : lkN (oneM T c) 3 = c := by rw [lkN_of one_three]
theorem one_dat : datN (oneM T c) 3 = [] := by rw [datN_of one_three]
def addT (T : ByteArray → Bool) (s : ByteArray) : ByteArray → Bool := fun t => T t || decide (t = s)
def subT (T : ByteArray → Bool) (s : ByteArray) : ByteArray → Bool := fun t => T t && !decide (t = s)
theorem upd_add {s : ByteArray} : updE (fun s => if T s then some 3 else none) s (some 3) = fun t => if addT T s t then some 3 else none := by
  funext t
  unfold updE addT
  by_cases e : t = s
  · rw [if_pos e, decide_eq_true e, Bool.or_true]; rfl
  · rw [if_neg e, decide_eq_false e, Bool.or_false]
theorem upd_sub {s : ByteArray} : updE (fun s => if T s then some 3 else none) s none = fun t => if subT T s t then some 3 else none := by
  funext t
  unfold updE subT
  by_cases e : t = s
  · rw [if_pos e, decide_eq_true e, Bool.not_true, Bool.and_false]; rfl
  · rw [if_neg e, decide_eq_false e, Bool.not_false, Bool.and_true]
theorem one_link {s : ByteArray} : linkM (oneM T c) 2 s 3 = oneM (addT T s) (c + 1) := by
  unfold linkM
  rw [one_lk, one_dat, one_ent', upd_add]
  funext x
  by_cases e2 : x = 2
  · rw [e2, setE_p (q := ⟨some fun s => if T s then some 3 else none, [], 1⟩) (by rw [setN_o (by decide)]; exact one_root), one_root]
  · rw [setE_o e2]
    by_cases e3 : x = 3
    · rw [e3, setN_i one_three, one_three]
    · rw [setN_o e3]
      unfold oneM
      rw [if_neg e2, if_neg e3, if_neg e2, if_neg e3]
theorem one_drop {s : ByteArray} (hc : c ≠ 1) : dropT (oneM T c) 2 s 3 = oneM (subT T s) (c - 1) := by
  unfold dropT
  rw [one_three]
  show dropM (oneM T c) 2 (entN (oneM T c) 2) s 3 ⟨none, [], c⟩ = _
  unfold dropM
  rw [if_neg (show ¬ c - 1 = 0 by omega), one_ent', upd_sub]
  funext x
  by_cases e3 : x = 3
  · rw [e3, setN_i (q := ⟨none, [], c⟩) (by rw [setE_o (by decide)]; exact one_three), one_three]
  · rw [setN_o e3]
    by_cases e2 : x = 2
    · rw [e2, setE_p one_root, one_root]
    · rw [setE_o e2]
      unfold oneM
      rw [if_neg e2, if_neg e3, if_neg e2, if_neg e3]
theorem one_last {s : ByteArray} : dropT (oneM (fun t => decide (t = s)) 1) 2 s 3 = newM := by
  unfold dropT
  rw [one_three]
  show dropM (oneM (fun t => decide (t = s)) 1) 2 (entN (oneM (fun t => decide (t = s)) 1) 2) s 3 ⟨none, [], 1⟩ = _
  unfold dropM
  rw [if_pos (by decide), one_ent', upd_sub]
  funext x
  unfold killM
  by_cases e3 : x = 3
  · rw [if_pos e3, e3]
    exact (if_neg (by decide)).symm
  · rw [if_neg e3, setN_o e3]
    by_cases e2 : x = 2
    · rw [e2, setE_p one_root]
      unfold newM
      rw [if_pos rfl]
      have : (fun t => if subT (fun t => decide (t = s)) s t then some 3 else none) = fun _ => (none : Option Nat) := by
        funext t
        unfold subT
        by_cases e : t = s
        · simp [e]
        · simp [e]
      rw [this]
    · rw [setE_o e2]
      unfold oneM newM
      rw [if_neg e2, if_neg e3, if_neg e2]
theorem one_new {s : ByteArray} : addM newM 3 (freshNd false) 2 s = oneM (fun t => decide (t = s)) 1 := by
  funext x
  by_cases e3 : x = 3
  · rw [e3, addM_i, one_three]; rfl
  · by_cases e2 : x = 2
    · rw [e2, addM_p (q := ⟨some fun _ => none, [], 1⟩) (by decide) rfl, one_root]
      have : updE (fun _ => none) s (some 3) = fun t => if decide (t = s) then some 3 else none := by
        funext t
        unfold updE
        by_cases e : t = s
        · rw [if_pos e, decide_eq_true e]; rfl
        · rw [if_neg e, decide_eq_false e]; rfl
      show some (Nd.mk (some (updE (fun _ => none) s (some 3))) [] 1) = _
      rw [this]
    · rw [addM_o e3 e2]
      unfold oneM newM
      rw [if_neg e2, if_neg e2, if_neg e3]
theorem new_least {cap : Nat} (hc : 5 ≤ cap) : leastN newM cap cap 2 = some 3 := least_eq cap 2 3 (fun y h1 h2 => by have e : y = 2 := (by omega); subst e; rfl) (by decide) (by omega) rfl (by omega)
/-- A name more of the file, by one of its names. -/
theorem one_Link {cap : Nat} (h : Good (oneM T c) cap) {s t : ByteArray} (hs : nameE s.data.toList = 0) (ht : nameE t.data.toList = 0) (hS : T s = true) (hT : T t = false) :
    linkN (oneM T c) (pathS [s] false) (pathS [t] false) = if c = 100 then (31, oneM T c) else (0, oneM (addT T t) (c + 1)) := by
  obtain ⟨a, b, _⟩ := one_name hs
  obtain ⟨a', b', _⟩ := one_name ht
  obtain ⟨p1, p2, p3⟩ := par_path (d := false) a' b'
  have h0 := (path_split a (by simp) b).1
  have hd := (path_split a' (by simp) b').2.2
  rw [List.nil_append] at p1 p2 p3 h0 hd
  rw [link_at h0 p1 p2 p3 (root_look hs (i := 3) (by rw [one_ent, hS]; rfl)) one_file root_lead h.1.ok.root (by rw [one_ent, hT]; rfl) hd, one_lk, one_link]
theorem one_Unlink {s : ByteArray} (hs : nameE s.data.toList = 0) (hS : T s = true) (hc : c ≠ 1) : goneN (oneM T c) (pathS [s] false) false = (0, oneM (subT T s) (c - 1)) := by
  rw [root_gone hs (i := 3) (by rw [one_ent, hS]; rfl) (wrong_file one_file), one_drop hc]
theorem one_noLink {cap : Nat} (h : Good (oneM T c) cap) {s : ByteArray} (hs : nameE s.data.toList = 0) (hS : T s = false) : goneN (oneM T c) (pathS [s] false) false = (2, oneM T c) :=
  root_none h hs (by rw [one_ent, hS]; rfl)
theorem one_stat {s : ByteArray} (hs : nameE s.data.toList = 0) (hS : T s = true) : statN (oneM T c) (pathS [s] false) = ((3, 1, c, 0), 0) := by
  unfold statN
  rw [root_look hs (i := 3) (by rw [one_ent, hS]; rfl)]
  dsimp only
  rw [one_file, one_lk, one_dat]
  rfl
end
/-- The names from 0 on. -/
def upT (i : Nat) : ByteArray → Bool := fun t => (List.range i).any fun j => decide (nm j = t)
/-- The names from i on but one, and one more. -/
def dnT (i g : Nat) : ByteArray → Bool := fun t => (List.range 100).any (fun j => decide (i ≤ j) && !decide (j = g) && decide (nm j = t)) || decide (t = nMore)
theorem upT_nm {i j : Nat} (hi : i ≤ 100) (hj : j < 100) : upT i (nm j) = decide (j < i) := by
  unfold upT
  rw [Bool.eq_iff_iff, List.any_eq_true, decide_eq_true_eq]
  constructor
  · rintro ⟨k, hk, e⟩
    have hk := List.mem_range.1 hk
    rw [decide_eq_true_eq] at e
    rw [← nm_inj k (by omega) j hj e]; exact hk
  · intro h
    exact ⟨j, List.mem_range.2 h, by simp⟩
theorem upT_more {i : Nat} : upT i nMore = false := by
  unfold upT
  rw [Bool.eq_false_iff]
  intro h
  obtain ⟨k, _, e⟩ := List.any_eq_true.1 h
  rw [decide_eq_true_eq] at e
  exact more_nm k e
theorem upT_zero : (fun t => decide (t = nm 0)) = upT 1 := by
  funext t
  show _ = ([0].any fun j => decide (nm j = t))
  rw [List.any_cons, List.any_nil, Bool.or_false, decide_eq_decide]
  exact ⟨Eq.symm, Eq.symm⟩
theorem upT_add {i : Nat} : addT (upT i) (nm i) = upT (i + 1) := by
  funext t
  unfold addT upT
  rw [List.range_succ, List.any_append, List.any_cons, List.any_nil, Bool.or_false]
  congr 1
  rw [decide_eq_decide]
  exact ⟨Eq.symm, Eq.symm⟩
theorem dnT_nm {i g j : Nat} (hj : j < 100) : dnT i g (nm j) = (decide (i ≤ j) && !decide (j = g)) := by
  unfold dnT
  rw [decide_eq_false (more_nm j), Bool.or_false, Bool.eq_iff_iff, List.any_eq_true]
  constructor
  · rintro ⟨k, hk, e⟩
    rw [Bool.and_eq_true, decide_eq_true_eq] at e
    have := nm_inj k (List.mem_range.1 hk) j hj e.2
    subst this
    exact e.1
  · intro h
    exact ⟨j, List.mem_range.2 hj, by rw [h, decide_eq_true rfl]; rfl⟩
theorem dnT_more {i g : Nat} : dnT i g nMore = true := by
  unfold dnT
  rw [decide_eq_true rfl, Bool.or_true]
theorem dnT_start {g : Nat} (hg : g < 100) : addT (subT (upT 100) (nm g)) nMore = dnT 0 g := by
  funext t
  unfold addT dnT
  congr 1
  rw [Bool.eq_iff_iff]
  unfold subT upT
  rw [Bool.and_eq_true, List.any_eq_true, List.any_eq_true]
  constructor
  · rintro ⟨⟨k, hk, e⟩, hne⟩
    refine ⟨k, hk, ?_⟩
    simp only [decide_eq_true_eq, Bool.not_eq_true', decide_eq_false_iff_not, Bool.and_eq_true] at e hne ⊢
    exact ⟨⟨by omega, fun hkg => hne (by rw [← e, hkg])⟩, e⟩
  · rintro ⟨k, hk, h⟩
    simp only [decide_eq_true_eq, Bool.not_eq_true', decide_eq_false_iff_not, Bool.and_eq_true] at h
    refine ⟨⟨k, hk, by rw [decide_eq_true h.2]⟩, ?_⟩
    simp only [decide_eq_false_iff_not, Bool.not_eq_true']
    intro e
    exact h.1.2 (nm_inj k (List.mem_range.1 hk) g hg (by rw [h.2, e]))
theorem dnT_step {i g : Nat} (hi : i < 100) (_hg : i ≠ g) : subT (dnT i g) (nm i) = dnT (i + 1) g := by
  funext t
  unfold subT dnT
  by_cases hm : t = nMore
  · rw [decide_eq_true hm, Bool.or_true, Bool.or_true, decide_eq_false (fun e => more_nm i (by rw [← e, hm]))]; rfl
  · rw [decide_eq_false hm, Bool.or_false, Bool.or_false, Bool.eq_iff_iff, Bool.and_eq_true, List.any_eq_true, List.any_eq_true]
    constructor
    · rintro ⟨⟨k, hk, e⟩, hne⟩
      refine ⟨k, hk, ?_⟩
      simp only [decide_eq_true_eq, Bool.not_eq_true', decide_eq_false_iff_not, Bool.and_eq_true] at e hne ⊢
      refine ⟨⟨?_, e.1.2⟩, e.2⟩
      by_cases hki : k = i
      · exact absurd (by rw [← e.2, hki]) hne
      · omega
    · rintro ⟨k, hk, h⟩
      simp only [decide_eq_true_eq, Bool.not_eq_true', decide_eq_false_iff_not, Bool.and_eq_true] at h
      refine ⟨⟨k, hk, ?_⟩, ?_⟩
      · simp only [decide_eq_true_eq, Bool.not_eq_true', decide_eq_false_iff_not, Bool.and_eq_true]
        exact ⟨⟨by omega, h.1.2⟩, h.2⟩
      · simp only [decide_eq_false_iff_not, Bool.not_eq_true']
        intro e
        have := nm_inj k (List.mem_range.1 hk) i hi (by rw [h.2, e])
        omega
theorem dnT_skip {g : Nat} : dnT g g = dnT (g + 1) g := by
  funext t
  unfold dnT
  congr 1
  rw [Bool.eq_iff_iff, List.any_eq_true, List.any_eq_true]
  constructor
  · rintro ⟨k, hk, e⟩
    simp only [decide_eq_true_eq, Bool.not_eq_true', decide_eq_false_iff_not, Bool.and_eq_true] at e
    refine ⟨k, hk, ?_⟩
    simp only [decide_eq_true_eq, Bool.not_eq_true', decide_eq_false_iff_not, Bool.and_eq_true]
    exact ⟨⟨by omega, e.1.2⟩, e.2⟩
  · rintro ⟨k, hk, e⟩
    simp only [decide_eq_true_eq, Bool.not_eq_true', decide_eq_false_iff_not, Bool.and_eq_true] at e
    refine ⟨k, hk, ?_⟩
    simp only [decide_eq_true_eq, Bool.not_eq_true', decide_eq_false_iff_not, Bool.and_eq_true]
    exact ⟨⟨by omega, e.1.2⟩, e.2⟩
theorem dnT_end {g : Nat} : dnT 100 g = fun t => decide (t = nMore) := by
  funext t
  unfold dnT
  have : ((List.range 100).any fun j => decide (100 ≤ j) && !decide (j = g) && decide (nm j = t)) = false := by
    rw [Bool.eq_false_iff]
    intro h
    obtain ⟨k, hk, e⟩ := List.any_eq_true.1 h
    have := List.mem_range.1 hk
    simp only [decide_eq_true_eq, Bool.not_eq_true', decide_eq_false_iff_not, Bool.and_eq_true] at e
    omega
  rw [this, Bool.false_or]
/-- All paths of a tree whose root has one file. -/
theorem walk_one {M : TM} {a : ByteArray} {i : Nat} (ha : entN M 2 a = some i) (hno : ∀ x, x ≠ a → entN M 2 x = none) (hi : isDir M i = false) {l : List ByteArray} (h : WalkIs M l) : l = [pathS [a] false] := by
  obtain ⟨h1, LL, hL, hp⟩ := h
  have ga : goE (entN M) 2 [a] = some i := by rw [goE_cons, ha]; rfl
  have hm : ∀ l', l' ∈ LL ↔ l' ∈ [[a]] := fun l' => by
    rw [hL.2]
    constructor
    · rintro ⟨hn, hg⟩
      cases l' with
      | nil => exact absurd rfl hn
      | cons x r =>
        rw [goE_cons] at hg
        by_cases e1 : x = a
        · subst e1
          rw [ha] at hg
          obtain ⟨z, hz⟩ := Option.isSome_iff_exists.1 hg
          rw [(goE_sub (ent_file hi) r z hz).1]; simp
        · rw [hno x e1] at hg; cases hg
    · intro h
      rw [List.mem_singleton] at h
      subst h
      exact ⟨by simp, by rw [ga]; rfl⟩
  have hpp := (List.perm_ext_iff_of_nodup hL.1 (by simp)).2 hm
  have := hp.trans (hpp.map (pathAt M))
  rw [List.map_cons, List.map_nil, pathAt_of ga, hi] at this
  exact List.perm_singleton.1 this
end Go.Proofs.Ytoofcnehoffllaa

namespace Go.Proofs.Ytoofcnehoffllaa
open Go.RowKit

def nX : ByteArray := ⟨#[120]⟩
theorem okX : nameE nX.data.toList = 0 := by decide
theorem pX : (⟨#[47, 120]⟩ : ByteArray) = pathS [nX] false := rfl
set_option maxRecDepth 100000 in
theorem nameLinks_any (w : World) (i : Nat) (hi : i < 100) : Calls Try.prog 16 #[.int .i64 i] w fun e w' => e = .returned (.string (pathS [nm i] false)) ∧ Below w.heap.size w w' := by
  have h0 : (0 : Int) ≤ (i : Int) := by omega
  have h1 : (i : Int) < 100 := by omega
  have hs := name_two i hi
  have hsz : ¬ 9223372036854775807 < (⟨#[47]⟩ : ByteArray).size + (strOfNums [97 + (i : Int) / 10, 48 + (i : Int) % 10]).size := by
    have := Lib.size_eq (strOfNums [97 + (i : Int) / 10, 48 + (i : Int) % 10])
    unfold strOfNums at *
    simp at this ⊢
    have : (⟨#[47]⟩ : ByteArray).size = 1 := rfl
    omega
  have hc : (convert 29 9 (.slice (some ⟨w.heap.size, 0, none⟩) 2 2)).run Try.prog (w.alloc (.cells #[.int .u8 (97 + (i : Int) / 10), .int .u8 (48 + (i : Int) % 10)] 5)) = .ok (.string (strOfNums [97 + (i : Int) / 10, 48 + (i : Int) % 10])) (w.alloc (.cells #[.int .u8 (97 + (i : Int) / 10), .int .u8 (48 + (i : Int) % 10)] 5)) :=
    SrcG.str (x := [97 + (i : Int) / 10, 48 + (i : Int) % 10]) (SrcG.block (xs := u8s [97 + (i : Int) / 10, 48 + (i : Int) % 10]) (blk_new rfl) rfl (u8s_one _))
  have HB := Lib.hid ((Below.refl _ w).alloc (Nat.le_refl _) (.cells #[.int .u8 (97 + (i : Int) / 10), .int .u8 (48 + (i : Int) % 10)] 5))
  generalize strOfNums [97 + (i : Int) / 10, 48 + (i : Int) % 10] = q at *
  generalize pathS [nm i] false = r at *
  go_enter Try.func16, Try.ntmps16
  go_wp2_with fail
  go_ret
  exact ⟨rfl, HB.out⟩
theorem nm_size (i : Nat) (hi : i < 100) : (pathS [nm i] false).size ≤ 1000000 := by have := (one_name (nm_ok i hi)).2.1; rw [List.nil_append] at this; omega
theorem LAt.stat {w0 w : World} {tb cap : Nat} {M : TM} (h : LAt w0 w tb cap M) (s : ByteArray) (hs : s.size ≤ 1000000) :
    Calls Try.prog 18 #[.pointer (some ⟨tb, 0, none⟩), .string s] w fun e w' => e = .returned (.tuple #[statV (statN M s).1, .int .i64 (statN M s).2]) ∧ Below w.heap.size w w' := stat_any h.at_ h.good.1 s hs
/-- How many names the file has still. -/
def cntL (i g : Nat) : Int := 101 - i - (if i ≤ g then 1 else 0)
set_option maxHeartbeats 8000000 in
set_option maxRecDepth 100000 in
theorem lawLinks_any (a : Int) (W : World) : Calls Try.prog 4 #[.int .i64 a] W fun e w' => e = .returned (.bool true) ∧ Below W.heap.size W w' := by
  obtain ⟨g, hg, hr⟩ := rest_of a 100 (by decide) (by decide)
  have hr : RowKit.wrap64 ((IntKind.u64.wrap a).tmod 100) = (g : Int) := hr
  have HA := Lib.hid (awake_any W)
  have HR := Lib.hid hr
  clear hr
  go_enter Try.func4, Try.ntmps4
  go_wp2_with fail
  refine HA.out.mono ?_
  rintro e w1 ⟨rfl, hb1⟩
  have HB1 := Lib.hid hb1
  have HN := Lib.hid (new_any (n := 5) (by decide) (by decide) w1)
  clear hb1 HA
  go_wp2_with fail
  refine HN.out.mono ?_
  rintro e w2 ⟨tb, nb, eb, b2, rfl, hT, h1, h2, h3, h4, hb2⟩
  have hs1 := HB1.out.size
  have L0 := LAt.new (w0 := W) (by decide) hT (by omega) (by omega) (by omega) (by omega) (below_call HB1.out hb2 (Nat.le_refl _))
  have HL0 := Lib.hid L0
  have HNM := Lib.hid nameLinks_any
  clear HN hT h1 h2 h3 h4 hb2 hs1 L0
  go_wp2_with fail
  refine (HNM.out w2 0 (by decide)).mono ?_
  rintro e w3 ⟨rfl, hb3⟩
  have hC := (HL0.out.below hb3).create (pathS [nm 0] false) (nm_size 0 (by decide))
  rw [root_make (HL0.out.good) (nm_ok 0 (by decide)) (newM_ent _ _) (new_least (by decide)), one_new, upT_zero] at hC
  have HC := Lib.hid hC
  clear hb3 hC HL0
  generalize hq0 : pathS [nm 0] false = q0 at *
  clear hq0
  go_wp2_with fail
  refine HC.out.mono ?_
  rintro e w4 ⟨rfl, hL4⟩
  have HL4 := Lib.hid hL4
  clear hL4 HC
  go_wp2_with fail
  go_loopw [7] (fun i wy => ∃ j : Nat, 1 ≤ j ∧ j ≤ 100 ∧ i = .int .i64 j ∧ LAt W wy tb 6 (oneM (upT j) j)) (fun i _ => 100 - (RowKit.intOf i).toNat)
  case atStart => exact ⟨1, by omega, by omega, rfl, HL4.out⟩
  case round =>
    obtain ⟨j, hj1, hj100, rfl, hL⟩ := hrel
    have HL := Lib.hid hL
    clear hL HL4
    by_cases hj : j < 100
    · have q1 : (j : Int) < 100 := by omega
      obtain ⟨i, hi⟩ : ∃ i, j = i + 1 := ⟨j - 1, by omega⟩
      subst hi
      have hii : ((i + 1 : Nat) : Int) - 1 = (i : Int) := by omega
      have hiw : RowKit.wrap64 (i : Int) = (i : Int) := by unfold RowKit.wrap64; omega
      have hC0 := fun (w' : World) (hb : Below wr.heap.size wr w') => (HL.out.below hb).link (pathS [nm i] false) (pathS [nm (i + 1)] false) (nm_size i (by omega)) (nm_size (i + 1) (by omega))
      rw [one_Link HL.out.good (nm_ok i (by omega)) (nm_ok (i + 1) (by omega)) (by rw [upT_nm (by omega) (by omega)]; simp) (by rw [upT_nm (by omega) (by omega)]; simp), if_neg (by omega), upT_add] at hC0
      have HC0 := Lib.hid hC0
      have HN1 := Lib.hid (fun w' => HNM.out w' i (by omega)); have HN2 := Lib.hid (fun w' => HNM.out w' (i + 1) (by omega))
      have hcc : ((i + 1 : Nat) : Int) + 1 = ((i + 1 + 1 : Nat) : Int) := by omega
      have HCC := Lib.hid hcc
      clear hC0 hcc
      generalize hqa : pathS [nm i] false = qa at *
      generalize hqb : pathS [nm (i + 1)] false = qb at *
      clear hqa hqb
      go_wp2_with fail
      refine (HN1.out _).mono ?_
      rintro e w5 ⟨rfl, hb5⟩
      have HB5 := Lib.hid hb5
      clear hb5
      go_wp2_with fail
      refine (HN2.out _).mono ?_
      rintro e w6 ⟨rfl, hb6⟩
      have HC1 := Lib.hid (HC0.out w6 (below_call HB5.out hb6 (Nat.le_refl _)))
      clear hb6 HC0 HB5
      go_wp2_with fail
      refine HC1.out.mono ?_
      rintro e w7 ⟨rfl, hL7⟩
      rw [HCC.out] at hL7
      have HL7 := Lib.hid hL7
      clear hL7 HC1 HCC
      go_wp2_with fail
      go_roundw
      case rel => exact ⟨i + 1 + 1, by omega, by omega, by go_num, HL7.out⟩
      case measure => simp only [RowKit.intOf]; omega
    · obtain rfl : j = 100 := by omega
      have q1 : ¬ ((100 : Nat) : Int) < 100 := by omega
      have hr := HR.out
      obtain ⟨h, hh⟩ : ∃ h : Nat, h = (g + 1) % 100 := ⟨_, rfl⟩
      have h100 : h < 100 := by omega
      have hhg : h ≠ g := by omega
      have hhi : ((g : Int) + 1) % 100 = (h : Int) := by omega
      have g0 : (0 : Int) ≤ (g : Int) := by omega
      have g1 : (g : Int) < 100 := by omega
      have hC1 := fun (w' : World) (hb : Below wr.heap.size wr w') => (HL.out.below hb).link (pathS [nm 5] false) ⟨#[47, 109, 111, 114, 101]⟩ (nm_size 5 (by decide)) (by decide)
      rw [pMore, one_Link HL.out.good (nm_ok 5 (by decide)) okMore (by rw [upT_nm (by omega) (by omega)]; rfl) upT_more, if_pos (by rfl)] at hC1
      have HC1 := Lib.hid hC1
      have HN5 := Lib.hid (fun w' => HNM.out w' 5 (by omega)); have HNG := Lib.hid (fun w' => HNM.out w' g hg); have HNH := Lib.hid (fun w' => HNM.out w' h h100)
      have hzg := nm_size g hg; have hzh := nm_size h h100
      have hu : goneN (oneM (upT 100) ((100 : Nat) : Int)) (pathS [nm g] false) false = (0, oneM (subT (upT 100) (nm g)) 99) := one_Unlink (nm_ok g hg) (by rw [upT_nm (by omega) hg, decide_eq_true hg]) (by decide)
      have hl : ∀ {cap}, Good (oneM (subT (upT 100) (nm g)) 99) cap → linkN (oneM (subT (upT 100) (nm g)) 99) (pathS [nm h] false) ⟨#[47, 109, 111, 114, 101]⟩ = (0, oneM (dnT 0 g) (cntL 0 g)) := fun {cap} hgd => by
        rw [pMore, one_Link hgd (nm_ok h h100) okMore (by unfold subT; rw [upT_nm (by omega) h100, decide_eq_true h100, decide_eq_false (fun e => hhg (nm_inj h h100 g hg e))]; rfl) (by unfold subT; rw [upT_more]; rfl), if_neg (by decide), dnT_start hg]
        unfold cntL
        rw [if_pos (by omega)]
        rfl
      have HU := Lib.hid hu; have HLK := Lib.hid (@hl 6)
      have hpm : pathS [nMore] false = (⟨#[47, 109, 111, 114, 101]⟩ : ByteArray) := rfl
      rw [hpm] at HC1
      clear hC1 hu hl hh hpm
      generalize hqa : pathS [nm 5] false = qa at *
      generalize hqb : pathS [nm g] false = qb at *
      generalize hqc : pathS [nm h] false = qc at *
      clear hqa hqc
      go_wp2_with fail
      refine (HN5.out _).mono ?_
      rintro e w5 ⟨rfl, hb5⟩
      have HC2 := Lib.hid (HC1.out w5 hb5)
      clear hb5 HC1 hr
      go_wp2_with fail
      refine HC2.out.mono ?_
      rintro e w6 ⟨rfl, hL6⟩
      have HL6 := Lib.hid hL6
      clear hL6 HC2
      go_wp2_with fail
      refine (HNG.out _).mono ?_
      rintro e w7 ⟨rfl, hb7⟩
      have hC3 := (HL6.out.below hb7).unlink qb hzg
      rw [HU.out] at hC3
      have HC3 := Lib.hid hC3
      clear hb7 hC3 HL6
      go_wp2_with fail
      refine HC3.out.mono ?_
      rintro e w8 ⟨rfl, hL8⟩
      have HL8 := Lib.hid hL8
      clear hL8 HC3
      go_wp2_with fail
      refine (HNH.out _).mono ?_
      rintro e w9 ⟨rfl, hb9⟩
      have hC4 := (HL8.out.below hb9).link qc ⟨#[47, 109, 111, 114, 101]⟩ hzh (by decide)
      rw [HLK.out HL8.out.good] at hC4
      have HC4 := Lib.hid hC4
      clear hb9 hC4 HL8
      go_wp2_with fail
      refine HC4.out.mono ?_
      rintro e w10 ⟨rfl, hL10⟩
      have HL10 := Lib.hid hL10
      clear hL10 HC4
      go_wp2_with fail
      clear HN5 HNG HNH HU HLK hhg hhi HL
      go_loopw [8] (fun i wy => ∃ j : Nat, j ≤ 100 ∧ i = .int .i64 j ∧ LAt W wy tb 6 (oneM (dnT j g) (cntL j g))) (fun i _ => 100 - (RowKit.intOf i).toNat)
      case atStart => exact ⟨0, by omega, rfl, HL10.out⟩
      case round =>
        obtain ⟨j, hj100, rfl, hL⟩ := hrel
        have HL := Lib.hid hL
        clear hL HL10
        by_cases hj : j < 100
        · have q1 : (j : Int) < 100 := by omega
          have HNJ := Lib.hid (fun w' => HNM.out w' j hj)
          have hzj := nm_size j hj
          by_cases hjg : j = g
          · subst hjg
            have hu : goneN (oneM (dnT j j) (cntL j j)) (pathS [nm j] false) false = (2, oneM (dnT (j + 1) j) (cntL (j + 1) j)) := by
              rw [one_noLink HL.out.good (nm_ok j hj) (by rw [dnT_nm hj]; simp), dnT_skip]
              unfold cntL
              rw [if_pos (Nat.le_refl _), if_neg (by omega), show (101 : Int) - (j : Int) - 1 = 101 - ((j + 1 : Nat) : Int) - 0 by omega]
            have hC := fun (w' : World) (hb : Below wr.heap.size wr w') => (HL.out.below hb).unlink (pathS [nm j] false) hzj
            rw [hu] at hC
            have HC := Lib.hid hC
            clear hu hC hqb
            generalize hqa : pathS [nm j] false = qa at *
            clear hqa
            go_wp2_with fail
            refine (HNJ.out _).mono ?_
            rintro e w11 ⟨rfl, hb11⟩
            have HC1 := Lib.hid (HC.out w11 hb11)
            clear hb11 HC
            go_wp2_with fail
            refine HC1.out.mono ?_
            rintro e w12 ⟨rfl, hL12⟩
            have HL12 := Lib.hid hL12
            clear hL12 HC1
            go_wp2_with fail
            go_roundw
            case rel => exact ⟨j + 1, by omega, by go_num, HL12.out⟩
            case measure => simp only [RowKit.intOf]; omega
          · have hjg' : (j : Int) ≠ (g : Int) := by omega
            have hjb : ((j : Int) != (g : Int)) = true := by rw [bne_iff_ne]; exact hjg'
            have hu : goneN (oneM (dnT j g) (cntL j g)) (pathS [nm j] false) false = (0, oneM (dnT (j + 1) g) (cntL (j + 1) g)) := by
              have hc1 : cntL j g ≠ 1 := by unfold cntL; split <;> omega
              rw [one_Unlink (nm_ok j hj) (by rw [dnT_nm hj, decide_eq_true (Nat.le_refl j), decide_eq_false hjg]; rfl) hc1, dnT_step hj hjg]
              have : cntL j g - 1 = cntL (j + 1) g := by
                unfold cntL
                by_cases hle : j ≤ g
                · rw [if_pos hle, if_pos (by omega)]; omega
                · rw [if_neg hle, if_neg (by omega)]; omega
              rw [this]
            have hC := fun (w' : World) (hb : Below wr.heap.size wr w') => (HL.out.below hb).unlink (pathS [nm j] false) hzj
            rw [hu] at hC
            have HC := Lib.hid hC
            clear hu hC hqb
            generalize hqa : pathS [nm j] false = qa at *
            clear hqa
            go_wp2_with fail
            refine (HNJ.out _).mono ?_
            rintro e w11 ⟨rfl, hb11⟩
            have HC1 := Lib.hid (HC.out w11 hb11)
            clear hb11 HC
            go_wp2_with fail
            refine HC1.out.mono ?_
            rintro e w12 ⟨rfl, hL12⟩
            have HL12 := Lib.hid hL12
            clear hL12 HC1
            go_wp2_with fail
            go_roundw
            case rel => exact ⟨j + 1, by omega, by go_num, HL12.out⟩
            case measure => simp only [RowKit.intOf]; omega
        · obtain rfl : j = 100 := by omega
          have q1 : ¬ ((100 : Nat) : Int) < 100 := by omega
          have hm : oneM (dnT 100 g) (cntL 100 g) = oneM (fun t => decide (t = nMore)) 1 := by
            rw [dnT_end]
            unfold cntL
            rw [if_neg (by omega)]; rfl
          have hL := HL.out
          rw [hm] at hL
          have HS := Lib.hid (hL.stat ⟨#[47, 109, 111, 114, 101]⟩ (by decide))
          have hst : statN (oneM (fun t => decide (t = nMore)) 1) ⟨#[47, 109, 111, 114, 101]⟩ = ((3, 1, 1, 0), 0) := by rw [pMore]; exact one_stat okMore (by simp)
          rw [hst] at HS
          have hgo : goneN (oneM (fun t => decide (t = nMore)) 1) ⟨#[47, 109, 111, 114, 101]⟩ false = (0, newM) := by
            rw [pMore, root_gone okMore (i := 3) (by rw [one_ent]; simp) (wrong_file one_file), one_last]
          have HGO := Lib.hid hgo; have HL1 := Lib.hid hL
          have hmk : makeN newM 6 ⟨#[47, 120]⟩ false = (3, 0, oneM (fun t => decide (t = nX)) 1) := by
            rw [pX, root_make (newM_full (by decide)) okX (newM_ent _ _) (new_least (by decide)), one_new]
            rfl
          have HMK := Lib.hid hmk
          have HWK : Hid (∀ l, WalkIs (oneM (fun t => decide (t = nX)) 1) l → l = [⟨#[47, 120]⟩]) := Lib.hid fun l hl => by
            rw [pX]
            exact walk_one (i := 3) (by rw [one_ent]; simp) (fun x hx => by rw [one_ent]; simp [hx]) one_file hl
          clear hm hst hgo hmk hL HL hqb
          unfold statV statA at HS
          dsimp only at HS
          go_wp2_with fail
          refine HS.out.mono ?_
          rintro e w11 ⟨rfl, hb11⟩
          have hL11 := HL1.out.below hb11
          have hC := (hL11.below ((Below.refl _ w11).alloc (Nat.le_refl _) (.cells #[.int .i64 3, .int .i64 1, .int .i64 1, .int .i64 0] 39))).unlink ⟨#[47, 109, 111, 114, 101]⟩ (by decide)
          rw [HGO.out] at hC
          have HC := Lib.hid hC
          clear hL11 hC hb11 HS HL1
          go_wp2_with fail
          refine HC.out.mono ?_
          rintro e w12 ⟨rfl, hL12⟩
          have hC2 := hL12.create ⟨#[47, 120]⟩ (by decide)
          rw [HMK.out] at hC2
          have HC2 := Lib.hid hC2
          clear hL12 hC2 HC HMK
          go_wp2_with fail
          refine HC2.out.mono ?_
          rintro e w13 ⟨rfl, hL13⟩
          have HC3 := Lib.hid hL13.walk
          have HL13 := Lib.hid hL13
          clear hL13 HC2
          go_wp2_with fail
          refine HC3.out.mono ?_
          rintro e w14 ⟨v, l, rfl, hl, -, hst, hb14⟩
          rw [HWK.out l hl] at hst
          have hb := Lib.hid (HL13.out.below hb14).bel
          have ht := texts_any (B := w14.heap.size + 1) (w := w14.alloc (.cells #[.string ⟨#[47, 120]⟩] 9)) (u := v) ((hst.below ((Below.refl _ w14).alloc (Nat.le_refl _) _)).mono (Nat.le_succ _)) (StrsAt.built (l := [⟨#[47, 120]⟩]) _ rfl (by decide) _) (by simp) (by decide) (by decide)
          have HT := Lib.hid ht
          clear ht hst hl hb14 HC3
          go_wp2_with fail
          refine HT.out.mono ?_
          rintro e w15 ⟨rfl, hb15⟩
          have HB15 := Lib.hid (below_call (hb.out.alloc hb.out.size _) hb15 (Nat.le_refl _))
          clear hb15 HT
          go_wp2_with fail
          go_ret
          exact ⟨rfl, HB15.out⟩
end Go.Proofs.Ytoofcnehoffllaa
