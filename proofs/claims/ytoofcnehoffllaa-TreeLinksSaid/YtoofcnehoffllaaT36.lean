/- The laws' names of files. -/
/- Trees of files in the root alone, plainly. -/
import Derived.Test.YtoofcnehoffllaaT34
namespace Go.Proofs.Ytoofcnehoffllaa
open Go.RowKit

/-- The name of the i-th file. -/
def nm (i : Nat) : ByteArray := mkS [UInt8.ofNat (97 + i / 10), UInt8.ofNat (48 + i % 10)]
theorem nm_ok : ∀ i, i < 100 → nameE (nm i).data.toList = 0 := by decide +kernel
theorem nm_inj : ∀ i, i < 100 → ∀ j, j < 100 → nm i = nm j → i = j := by decide +kernel
theorem addr_cell0 {W : World} {a : Addr} {u : Value} (h : W.cell? (a.add 0) = some u) : ∃ g o, a = ⟨g, o, none⟩ := by
  obtain ⟨g, o, sp⟩ := a
  have e0 : (⟨g, o, sp⟩ : Addr).add 0 = ⟨g, o, sp⟩ := by simp [Addr.add]
  rw [e0] at h
  unfold World.cell? at h
  cases hg : W.heap[g]? with
  | none => simp [hg] at h
  | some ob =>
    cases sp with
    | none => exact ⟨g, o, rfl⟩
    | some s => cases ob <;> simp [hg] at h
/-- A slice of bytes as a text. -/
theorem SrcG.str {w : World} {v : Value} {x : List Int} (h : SrcG 1 w v x.length (u8s x)) : (convert 29 9 v).run Try.prog w = .ok (.string (strOfNums x)) w := by
  obtain ⟨a, c, rfl, hl, h1, hc⟩ := h
  by_cases hn : 0 < x.length
  · obtain ⟨ad, rfl, hh⟩ := hc hn
    obtain ⟨u, hu⟩ : ∃ u, (u8s x)[0]? = some u := ⟨_, List.getElem?_eq_getElem (by rw [u8s_length]; exact hn)⟩
    obtain ⟨g, o, rfl⟩ := addr_cell0 (hh 0 u hu)
    have := run_convert_bytes_arg (P := Try.prog) w 29 5 Try.underlying29 Try.underlying5 g o x.length c x rfl (fun i hi => by
      have := hh i (.int .u8 (x.getD i 0)) (by unfold u8s; rw [List.getElem?_map, List.getElem?_eq_getElem hi, List.getD_eq_getElem?_getD, List.getElem?_eq_getElem hi]; rfl)
      rw [Addr.add_lit] at this
      exact this) _ Try.underlying9
    exact this
  · obtain rfl : x = [] := List.eq_nil_of_length_eq_zero (by omega)
    cases a with
    | none =>
      rw [run_convert_bytes_string w 29 9 5 _ _ c Try.underlying29 Try.underlying5 Try.underlying9]
      simp [Conv.bytesToString, strOfNums] <;> rfl
    | some ad =>
      rw [run_convert_bytes_string w 29 9 5 _ _ c Try.underlying29 Try.underlying5 Try.underlying9]
      simp [Conv.bytesToString, loadCells, strOfNums] <;> rfl
theorem name_two (i : Nat) (hi : i < 100) : (⟨#[47]⟩ : ByteArray) ++ strOfNums [97 + (i : Int) / 10, 48 + (i : Int) % 10] = pathS [nm i] false := by
  have h1 : (97 + (i : Int) / 10).toNat = 97 + i / 10 := by omega
  have h2 : (48 + (i : Int) % 10).toNat = 48 + i % 10 := by omega
  unfold strOfNums
  rw [List.map_cons, List.map_cons, List.map_nil, h1, h2]
  unfold pathS
  show mkS [47] ++ mkS [UInt8.ofNat (97 + i / 10), UInt8.ofNat (48 + i % 10)] = _
  rw [mkS_append, slashed_one]
  unfold nm
  rw [data_mkS]
  simp
set_option maxRecDepth 100000 in
theorem nameNew_any (w : World) (i : Nat) (hi : i < 100) : Calls Try.prog 10 #[.int .i64 i] w fun e w' => e = .returned (.string (pathS [nm i] false)) ∧ Below w.heap.size w w' := by
  have h0 : (0 : Int) ≤ (i : Int) := by omega
  have h1 : (i : Int) < 100 := by omega
  have hs := name_two i hi
  have hsz : ¬ 9223372036854775807 < (⟨#[47]⟩ : ByteArray).size + (strOfNums [97 + (i : Int) / 10, 48 + (i : Int) % 10]).size := by
    have := Lib.size_eq (strOfNums [97 + (i : Int) / 10, 48 + (i : Int) % 10])
    unfold strOfNums at *
    simp at this ⊢
    have : (⟨#[47]⟩ : ByteArray).size = 1 := rfl
    omega
  have hc : (convert 29 9 (.slice (some ⟨w.heap.size, 0, none⟩) 2 2)).run Try.prog (w.alloc (.cells #[.int .u8 (97 + (i : Int) / 10), .int .u8 (48 + (i : Int) % 10)] 5)) = .ok (.string (strOfNums [97 + (i : Int) / 10, 48 + (i : Int) % 10])) (w.alloc (.cells #[.int .u8 (97 + (i : Int) / 10), .int .u8 (48 + (i : Int) % 10)] 5)) :=
    SrcG.str (x := [97 + (i : Int) / 10, 48 + (i : Int) % 10]) (SrcG.block (xs := u8s [97 + (i : Int) / 10, 48 + (i : Int) % 10]) (blk_new rfl) rfl (u8s_one _))
  have HB := Lib.hid ((Below.refl _ w).alloc (Nat.le_refl _) (.cells #[.int .u8 (97 + (i : Int) / 10), .int .u8 (48 + (i : Int) % 10)] 5))
  generalize strOfNums [97 + (i : Int) / 10, 48 + (i : Int) % 10] = q at *
  generalize pathS [nm i] false = r at *
  go_enter Try.func10, Try.ntmps10
  go_wp2_with fail
  go_ret
  exact ⟨rfl, HB.out⟩
end Go.Proofs.Ytoofcnehoffllaa

namespace Go.Proofs.Ytoofcnehoffllaa
open Go.RowKit

/-- What the root has: the files of a set, by their names. -/
def fnd (S : Nat → Bool) : ByteArray → Option Nat := fun s => (List.range 100).find? fun i => S i && decide (nm i = s)
/-- The files of a set. -/
def flatM (S : Nat → Bool) : TM := fun x => if x = 2 then some ⟨some (fnd S), [], 1⟩ else if S x then some ⟨none, [], 1⟩ else none
theorem fnd_some {S : Nat → Bool} {s : ByteArray} {i : Nat} (h : fnd S s = some i) : i < 100 ∧ S i = true ∧ nm i = s := by
  unfold fnd at h
  have h1 := List.find?_some h
  have h2 := List.mem_of_find?_eq_some h
  rw [Bool.and_eq_true, decide_eq_true_eq] at h1
  exact ⟨List.mem_range.1 h2, h1.1, h1.2⟩
theorem fnd_none {S : Nat → Bool} {s : ByteArray} (h : ∀ i, i < 100 → S i = true → nm i ≠ s) : fnd S s = none := by
  unfold fnd
  rw [List.find?_eq_none]
  intro i hi hh
  rw [Bool.and_eq_true, decide_eq_true_eq] at hh
  exact h i (List.mem_range.1 hi) hh.1 hh.2
theorem fnd_at {S : Nat → Bool} {i : Nat} (hi : i < 100) (hs : S i = true) : fnd S (nm i) = some i := by
  cases hq : fnd S (nm i) with
  | none =>
    unfold fnd at hq
    rw [List.find?_eq_none] at hq
    exact absurd (by rw [hs, decide_eq_true rfl]; rfl) (hq i (List.mem_range.2 hi))
  | some j =>
    obtain ⟨a, b, c⟩ := fnd_some hq
    rw [nm_inj j a i hi c]
theorem fnd_eq {S T : Nat → Bool} {s : ByteArray} (h : ∀ i, i < 100 → nm i = s → S i = T i) : fnd S s = fnd T s := by
  cases hq : fnd T s with
  | none =>
    refine fnd_none fun i hi hs hn => ?_
    rw [h i hi hn] at hs
    rw [← hn, fnd_at hi hs] at hq; cases hq
  | some j =>
    obtain ⟨a, b, c⟩ := fnd_some hq
    rw [← c]
    exact fnd_at a (by rw [h j a c]; exact b)
theorem flat_ent (S : Nat → Bool) : entN (flatM S) 2 = fnd S := by
  funext s
  unfold entN flatM
  rw [if_pos rfl]
theorem flat_file {S : Nat → Bool} {i : Nat} (h2 : i ≠ 2) : isDir (flatM S) i = false := by
  unfold isDir flatM
  rw [if_neg h2]
  cases S i <;> rfl
theorem flat_some {S : Nat → Bool} {i : Nat} : (flatM S i).isSome = (decide (i = 2) || S i) := by
  unfold flatM
  by_cases e : i = 2
  · rw [if_pos e, decide_eq_true e]; rfl
  · rw [if_neg e, decide_eq_false e]
    cases S i <;> rfl
def addS (S : Nat → Bool) (j : Nat) : Nat → Bool := fun i => S i || decide (i = j)
def subS (S : Nat → Bool) (j : Nat) : Nat → Bool := fun i => S i && !decide (i = j)
theorem flat_add {S : Nat → Bool} {j : Nat} (hj : j < 100) (h2 : j ≠ 2) : addM (flatM S) j (freshNd false) 2 (nm j) = flatM (addS S j) := by
  funext x
  by_cases e1 : x = j
  · rw [e1, addM_i]
    unfold flatM addS
    rw [if_neg h2, decide_eq_true rfl, Bool.or_true]; rfl
  · by_cases e2 : x = 2
    · rw [e2, addM_p (q := ⟨some (fnd S), [], 1⟩) (fun e => h2 e.symm) (by unfold flatM; rw [if_pos rfl])]
      unfold flatM
      rw [if_pos rfl]
      show some (Nd.mk (some (updE (fnd S) (nm j) (some j))) [] 1) = _
      congr 2
      congr 1
      funext s
      unfold updE
      by_cases e : s = nm j
      · rw [if_pos e, e]
        exact (fnd_at hj (by unfold addS; rw [decide_eq_true rfl, Bool.or_true])).symm
      · rw [if_neg e]
        exact fnd_eq fun i hi hn => by
          unfold addS
          rw [decide_eq_false (fun h => e (by rw [← hn, h])), Bool.or_false]
    · rw [addM_o e1 e2]
      unfold flatM addS
      rw [if_neg e2, if_neg e2, decide_eq_false e1, Bool.or_false]
theorem flat_drop {S : Nat → Bool} {j : Nat} (hj : j < 100) (h2 : j ≠ 2) (hS : S j = true) : dropT (flatM S) 2 (nm j) j = flatM (subS S j) := by
  have hm : flatM S j = some ⟨none, [], 1⟩ := by unfold flatM; rw [if_neg h2, hS]; rfl
  unfold dropT
  rw [hm]
  show dropM (flatM S) 2 (entN (flatM S) 2) (nm j) j ⟨none, [], 1⟩ = _
  unfold dropM
  rw [if_pos (by decide), flat_ent]
  funext x
  unfold killM
  by_cases e1 : x = j
  · rw [if_pos e1, e1]
    unfold flatM subS
    rw [if_neg h2, decide_eq_true rfl, Bool.not_true, Bool.and_false]; rfl
  · rw [if_neg e1, setN_o e1]
    by_cases e2 : x = 2
    · rw [e2, setE_p (q := ⟨some (fnd S), [], 1⟩) (by unfold flatM; rw [if_pos rfl])]
      unfold flatM
      rw [if_pos rfl]
      congr 2
      congr 1
      funext s
      unfold updE
      by_cases e : s = nm j
      · rw [if_pos e, e]
        exact (fnd_none fun i hi hs hn => by
          have := nm_inj i hi j hj hn
          subst this
          unfold subS at hs
          rw [decide_eq_true rfl, Bool.not_true, Bool.and_false] at hs; cases hs).symm
      · rw [if_neg e]
        exact fnd_eq fun i hi hn => by
          unfold subS
          rw [decide_eq_false (fun h => e (by rw [← hn, h])), Bool.not_false, Bool.and_true]
    · rw [setE_o e2]
      unfold flatM subS
      rw [if_neg e2, if_neg e2, decide_eq_false e1, Bool.not_false, Bool.and_true]
/-- What is made and dropped at once has not been there. -/
theorem add_drop {M : TM} {p k : Nat} {s : ByteArray} {dir : Bool} (hn : M k = none) (hp : isDir M p = true) (hs : entN M p s = none) : dropT (addM M k (freshNd dir) p s) p s k = M := by
  obtain ⟨nd, f, hm, hf⟩ := isDir_there hp
  have hpk : p ≠ k := fun e => by rw [e, hn] at hm; cases hm
  have hef := ent_fun hm hf
  have hes : f s = none := by rw [← hef]; exact hs
  have hep : entN (addM M k (freshNd dir) p s) p = updE f s (some k) := by
    funext t
    rw [entN_of (addM_p hpk hm), hf]; rfl
  unfold dropT
  rw [addM_i]
  show dropM _ p (entN (addM M k (freshNd dir) p s) p) s k (freshNd dir) = M
  unfold dropM
  rw [if_pos (show (freshNd dir).links - 1 = 0 from (by decide : (1 : Int) - 1 = 0)), hep]
  funext x
  unfold killM
  by_cases e1 : x = k
  · rw [if_pos e1, e1, hn]
  · rw [if_neg e1, setN_o e1]
    by_cases e2 : x = p
    · rw [e2, setE_p (addM_p hpk hm), hm]
      congr 1
      cases nd with
      | mk ents data links =>
        dsimp only at hf ⊢
        subst hf
        congr 2
        funext t
        unfold updE
        by_cases e : t = s
        · rw [if_pos e, e, hes]
        · rw [if_neg e, if_neg e]
    · rw [setE_o e2, addM_o e1 e2]
theorem newM_flat : newM = flatM fun _ => false := by
  funext x
  unfold newM flatM
  by_cases e : x = 2
  · rw [if_pos e, if_pos e]
    have : (fun _ => none) = fnd fun _ => false := by
      funext s
      exact (fnd_none fun i _ h => by cases h).symm
    rw [this]
  · rw [if_neg e, if_neg e]
    exact (if_neg (by simp)).symm
/-- How many paths a tree of files has. -/
theorem flat_walk {S : Nat → Bool} {n : Nat} (hn : n < 100) (hS : ∀ i, S i = (decide (3 ≤ i) && decide (i ≤ n))) {l : List ByteArray} (h : WalkIs (flatM S) l) (h3 : 2 ≤ n) : l.length = n - 2 := by
  obtain ⟨_, LL, hL, hp⟩ := h
  have hm : ∀ l', l' ∈ LL ↔ l' ∈ (List.range' 3 (n - 2)).map fun i => [nm i] := fun l' => by
    rw [hL.2, List.mem_map]
    constructor
    · rintro ⟨hne, hg⟩
      cases l' with
      | nil => exact absurd rfl hne
      | cons s r =>
        rw [goE_cons, flat_ent] at hg
        cases hq : fnd S s with
        | none => rw [hq] at hg; cases hg
        | some i =>
          rw [hq] at hg
          obtain ⟨a, b, c⟩ := fnd_some hq
          rw [hS] at b
          simp only [Bool.and_eq_true, decide_eq_true_eq] at b
          obtain ⟨z, hz⟩ := Option.isSome_iff_exists.1 hg
          obtain ⟨rfl, _⟩ := goE_sub (ent_file (flat_file (S := S) (show i ≠ 2 by omega))) r z hz
          exact ⟨i, List.mem_range'_1.2 ⟨by omega, by omega⟩, by rw [c]⟩
    · rintro ⟨i, hi, rfl⟩
      have := List.mem_range'_1.1 hi
      refine ⟨by simp, ?_⟩
      rw [goE_cons, flat_ent, fnd_at (by omega) (by rw [hS]; simp; omega)]
      rfl
  have hnd : ((List.range' 3 (n - 2)).map fun i => [nm i]).Nodup := nodup_on List.nodup_range' fun a ha b hb e => by
    have h1 := List.mem_range'_1.1 ha
    have h2 := List.mem_range'_1.1 hb
    injection e with e _
    exact nm_inj a (by omega) b (by omega) e
  have := ((List.perm_ext_iff_of_nodup hL.1 hnd).2 hm).length_eq
  rw [hp.length_eq, List.length_map, this, List.length_map, List.length_range']
end Go.Proofs.Ytoofcnehoffllaa
