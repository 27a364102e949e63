/- The laws' names of files. -/
/- Trees of files in the root alone, plainly. -/
/- Walk of the statement TreeNew: it returns true. -/
/- Trees of one file of many names, plainly. -/
/- Walk of the statement TreeLinks: it returns true. -/
/- A tree beside other memory of the call; a tree of one file of bytes, plainly. -/
/- A tree beside a row of bytes of the call's own. -/
import Derived.Test.YtoofcnehoffllaaT34
namespace Go.Proofs.Ytoofcnehoffllaa
open Go.RowKit

/-- The name of the i-th file. -/
def nm (i : Nat) : ByteArray := mkS [UInt8.ofNat (97 + i / 10), UInt8.ofNat (48 + i % 10)]
theorem nm_ok : ∀ i, i < 100 → nameE (nm i).data.toList = 0 := by decide +kernel
theorem nm_inj : ∀ i, i < 100 → ∀ j, j < 100 → nm i = nm j → i = j := by decide +kernel
theorem addr_cell0 {W : World} {a : Addr} {u : Value} (h : W.cell? (a.add 0) = some u) : ∃ g o, a = ⟨g, o, none⟩ := by
  obtain ⟨g, o, sp⟩ := a
  have e0 : (⟨g, o, sp⟩ : Addr).add 0 = ⟨g, o, sp⟩ := by simp [Addr.add]
  rw [e0] at h
  unfold World.cell? at h
  cases hg : W.heap[g]? with
  | none => simp [hg] at h
  | some ob =>
    cases sp with
    | none => exact ⟨g, o, rfl⟩
    | some s => cases ob <;> simp [hg] at h
/-- A slice of bytes as a text. -/
theorem SrcG.str {w : World} {v : Value} {x : List Int} (h : SrcG 1 w v x.length (u8s x)) : (convert 29 9 v).run Try.prog w = .ok (.string (strOfNums x)) w := by
  obtain ⟨a, c, rfl, hl, h1, hc⟩ := h
  by_cases hn : 0 < x.length
  · obtain ⟨ad, rfl, hh⟩ := hc hn
    obtain ⟨u, hu⟩ : ∃ u, (u8s x)[0]? = some u := ⟨_, List.getElem?_eq_getElem (by rw [u8s_length]; exact hn)⟩
    obtain ⟨g, o, rfl⟩ := addr_cell0 (hh 0 u hu)
    have := run_convert_bytes_arg (P := Try.prog) w 29 5 Try.underlying29 Try.underlying5 g o x.length c x rfl (fun i hi => by
      have := hh i (.int .u8 (x.getD i 0)) (by unfold u8s; rw [List.getElem?_map, List.getElem?_eq_getElem hi, List.getD_eq_getElem?_getD, List.getElem?_eq_getElem hi]; rfl)
      rw [Addr.add_lit] at this
      exact this) _ Try.underlying9
    exact this
  · obtain rfl : x = [] := List.eq_nil_of_length_eq_zero (by omega)
    cases a with
    | none =>
      rw [run_convert_bytes_string w 29 9 5 _ _ c Try.underlying29 Try.underlying5 Try.underlying9]
      simp [Conv.bytesToString, strOfNums] <;> rfl
    | some ad =>
      rw [run_convert_bytes_string w 29 9 5 _ _ c Try.underlying29 Try.underlying5 Try.underlying9]
      simp [Conv.bytesToString, loadCells, strOfNums] <;> rfl
theorem name_two (i : Nat) (hi : i < 100) : (⟨#[47]⟩ : ByteArray) ++ strOfNums [97 + (i : Int) / 10, 48 + (i : Int) % 10] = pathS [nm i] false := by
  have h1 : (97 + (i : Int) / 10).toNat = 97 + i / 10 := by omega
  have h2 : (48 + (i : Int) % 10).toNat = 48 + i % 10 := by omega
  unfold strOfNums
  rw [List.map_cons, List.map_cons, List.map_nil, h1, h2]
  unfold pathS
  show mkS [47] ++ mkS [UInt8.ofNat (97 + i / 10), UInt8.ofNat (48 + i % 10)] = _
  rw [mkS_append, slashed_one]
  unfold nm
  rw [data_mkS]
  simp
set_option maxRecDepth 100000 in
theorem nameNew_any (w : World) (i : Nat) (hi : i < 100) : Calls Try.prog 10 #[.int .i64 i] w fun e w' => e = .returned (.string (pathS [nm i] false)) ∧ Below w.heap.size w w' := by
  have h0 : (0 : Int) ≤ (i : Int) := by omega
  have h1 : (i : Int) < 100 := by omega
  have hs := name_two i hi
  have hsz : ¬ 9223372036854775807 < (⟨#[47]⟩ : ByteArray).size + (strOfNums [97 + (i : Int) / 10, 48 + (i : Int) % 10]).size := by
    have := Lib.size_eq (strOfNums [97 + (i : Int) / 10, 48 + (i : Int) % 10])
    unfold strOfNums at *
    simp at this ⊢
    have : (⟨#[47]⟩ : ByteArray).size = 1 := rfl
    omega
  have hc : (convert 29 9 (.slice (some ⟨w.heap.size, 0, none⟩) 2 2)).run Try.prog (w.alloc (.cells #[.int .u8 (97 + (i : Int) / 10), .int .u8 (48 + (i : Int) % 10)] 5)) = .ok (.string (strOfNums [97 + (i : Int) / 10, 48 + (i : Int) % 10])) (w.alloc (.cells #[.int .u8 (97 + (i : Int) / 10), .int .u8 (48 + (i : Int) % 10)] 5)) :=
    SrcG.str (x := [97 + (i : Int) / 10, 48 + (i : Int) % 10]) (SrcG.block (xs := u8s [97 + (i : Int) / 10, 48 + (i : Int) % 10]) (blk_new rfl) rfl (u8s_one _))
  have HB := Lib.hid ((Below.refl _ w).alloc (Nat.le_refl _) (.cells #[.int .u8 (97 + (i : Int) / 10), .int .u8 (48 + (i : Int) % 10)] 5))
  generalize strOfNums [97 + (i : Int) / 10, 48 + (i : Int) % 10] = q at *
  generalize pathS [nm i] false = r at *
  go_enter Try.func10, Try.ntmps10
  go_wp2_with fail
  go_ret
  exact ⟨rfl, HB.out⟩
end Go.Proofs.Ytoofcnehoffllaa

namespace Go.Proofs.Ytoofcnehoffllaa
open Go.RowKit

/-- What the root has: the files of a set, by their names. -/
def fnd (S : Nat → Bool) : ByteArray → Option Nat := fun s => (List.range 100).find? fun i => S i && decide (nm i = s)
/-- The files of a set. -/
def flatM (S : Nat → Bool) : TM := fun x => if x = 2 then some ⟨some (fnd S), [], 1⟩ else if S x then some ⟨none, [], 1⟩ else none
theorem fnd_some {S : Nat → Bool} {s : ByteArray} {i : Nat} (h : fnd S s = some i) : i < 100 ∧ S i = true ∧ nm i = s := by
  unfold fnd at h
  have h1 := List.find?_some h
  have h2 := List.mem_of_find?_eq_some h
  rw [Bool.and_eq_true, decide_eq_true_eq] at h1
  exact ⟨List.mem_range.1 h2, h1.1, h1.2⟩
theorem fnd_none {S : Nat → Bool} {s : ByteArray} (h : ∀ i, i < 100 → S i = true → nm i ≠ s) : fnd S s = none := by
  unfold fnd
  rw [List.find?_eq_none]
  intro i hi hh
  rw [Bool.and_eq_true, decide_eq_true_eq] at hh
  exact h i (List.mem_range.1 hi) hh.1 hh.2
theorem fnd_at {S : Nat → Bool} {i : Nat} (hi : i < 100) (hs : S i = true) : fnd S (nm i) = some i := by
  cases hq : fnd S (nm i) with
  | none =>
    unfold fnd at hq
    rw [List.find?_eq_none] at hq
    exact absurd (by rw [hs, decide_eq_true rfl]; rfl) (hq i (List.mem_range.2 hi))
  | some j =>
    obtain ⟨a, b, c⟩ := fnd_some hq
    rw [nm_inj j a i hi c]
theorem fnd_eq {S T : Nat → Bool} {s : ByteArray} (h : ∀ i, i < 100 → nm i = s → S i = T i) : fnd S s = fnd T s := by
  cases hq : fnd T s with
  | none =>
    refine fnd_none fun i hi hs hn => ?_
    rw [h i hi hn] at hs
    rw [← hn, fnd_at hi hs] at hq; cases hq
  | some j =>
    obtain ⟨a, b, c⟩ := fnd_some hq
    rw [← c]
    exact fnd_at a (by rw [h j a c]; exact b)
theorem flat_ent (S : Nat → Bool) : entN (flatM S) 2 = fnd S := by
  funext s
  unfold entN flatM
  rw [if_pos rfl]
theorem flat_file {S : Nat → Bool} {i : Nat} (h2 : i ≠ 2) : isDir (flatM S) i = false := by
  unfold isDir flatM
  rw [if_neg h2]
  cases S i <;> rfl
theorem flat_some {S : Nat → Bool} {i : Nat} : (flatM S i).isSome = (decide (i = 2) || S i) := by
  unfold flatM
  by_cases e : i = 2
  · rw [if_pos e, decide_eq_true e]; rfl
  · rw [if_neg e, decide_eq_false e]
    cases S i <;> rfl
def addS (S : Nat → Bool) (j : Nat) : Nat → Bool := fun i => S i || decide (i = j)
def subS (S : Nat → Bool) (j : Nat) : Nat → Bool := fun i => S i && !decide (i = j)
theorem flat_add {S : Nat → Bool} {j : Nat} (hj : j < 100) (h2 : j ≠ 2) : addM (flatM S) j (freshNd false) 2 (nm j) = flatM (addS S j) := by
  funext x
  by_cases e1 : x = j
  · rw [e1, addM_i]
    unfold flatM addS
    rw [if_neg h2, decide_eq_true rfl, Bool.or_true]; rfl
  · by_cases e2 : x = 2
    · rw [e2, addM_p (q := ⟨some (fnd S), [], 1⟩) (fun e => h2 e.symm) (by unfold flatM; rw [if_pos rfl])]
      unfold flatM
      rw [if_pos rfl]
      show some (Nd.mk (some (updE (fnd S) (nm j) (some j))) [] 1) = _
      congr 2
      congr 1
      funext s
      unfold updE
      by_cases e : s = nm j
      · rw [if_pos e, e]
        exact (fnd_at hj (by unfold addS; rw [decide_eq_true rfl, Bool.or_true])).symm
      · rw [if_neg e]
        exact fnd_eq fun i hi hn => by
          unfold addS
          rw [decide_eq_false (fun h => e (by rw [← hn, h])), Bool.or_false]
    · rw [addM_o e1 e2]
      unfold flatM addS
      rw [if_neg e2, if_neg e2, decide_eq_false e1, Bool.or_false]
theorem flat_drop {S : Nat → Bool} {j : Nat} (hj : j < 100) (h2 : j ≠ 2) (hS : S j = true) : dropT (flatM S) 2 (nm j) j = flatM (subS S j) := by
  have hm : flatM S j = some ⟨none, [], 1⟩ := by unfold flatM; rw [if_neg h2, hS]; rfl
  unfold dropT
  rw [hm]
  show dropM (flatM S) 2 (entN (flatM S) 2) (nm j) j ⟨none, [], 1⟩ = _
  unfold dropM
  rw [if_pos (by decide), flat_ent]
  funext x
  unfold killM
  by_cases e1 : x = j
  · rw [if_pos e1, e1]
    unfold flatM subS
    rw [if_neg h2, decide_eq_true rfl, Bool.not_true, Bool.and_false]; rfl
  · rw [if_neg e1, setN_o e1]
    by_cases e2 : x = 2
    · rw [e2, setE_p (q := ⟨some (fnd S), [], 1⟩) (by unfold flatM; rw [if_pos rfl])]
      unfold flatM
      rw [if_pos rfl]
      congr 2
      congr 1
      funext s
      unfold updE
      by_cases e : s = nm j
      · rw [if_pos e, e]
        exact (fnd_none fun i hi hs hn => by
          have := nm_inj i hi j hj hn
          subst this
          unfold subS at hs
          rw [decide_eq_true rfl, Bool.not_true, Bool.and_false] at hs; cases hs).symm
      · rw [if_neg e]
        exact fnd_eq fun i hi hn => by
          unfold subS
          rw [decide_eq_false (fun h => e (by rw [← hn, h])), Bool.not_false, Bool.and_true]
    · rw [setE_o e2]
      unfold flatM subS
      rw [if_neg e2, if_neg e2, decide_eq_false e1, Bool.not_false, Bool.and_true]
/-- What is made and dropped at once has not been there. -/
theorem add_drop {M : TM} {p k : Nat} {s : ByteArray} {dir : Bool} (hn : M k = none) (hp : isDir M p = true) (hs : entN M p s = none) : dropT (addM M k (freshNd dir) p s) p s k = M := by
  obtain ⟨nd, f, hm, hf⟩ := isDir_there hp
  have hpk : p ≠ k := fun e => by rw [e, hn] at hm; cases hm
  have hef := ent_fun hm hf
  have hes : f s = none := by rw [← hef]; exact hs
  have hep : entN (addM M k (freshNd dir) p s) p = updE f s (some k) := by
    funext t
    rw [entN_of (addM_p hpk hm), hf]; rfl
  unfold dropT
  rw [addM_i]
  show dropM _ p (entN (addM M k (freshNd dir) p s) p) s k (freshNd dir) = M
  unfold dropM
  rw [if_pos (show (freshNd dir).links - 1 = 0 from (by decide : (1 : Int) - 1 = 0)), hep]
  funext x
  unfold killM
  by_cases e1 : x = k
  · rw [if_pos e1, e1, hn]
  · rw [if_neg e1, setN_o e1]
    by_cases e2 : x = p
    · rw [e2, setE_p (addM_p hpk hm), hm]
      congr 1
      cases nd with
      | mk ents data links =>
        dsimp only at hf ⊢
        subst hf
        congr 2
        funext t
        unfold updE
        by_cases e : t = s
        · rw [if_pos e, e, hes]
        · rw [if_neg e, if_neg e]
    · rw [setE_o e2, addM_o e1 e2]
theorem newM_flat : newM = flatM fun _ => false := by
  funext x
  unfold newM flatM
  by_cases e : x = 2
  · rw [if_pos e, if_pos e]
    have : (fun _ => none) = fnd fun _ => false := by
      funext s
      exact (fnd_none fun i _ h => by cases h).symm
    rw [this]
  · rw [if_neg e, if_neg e]
    exact (if_neg (by simp)).symm
/-- How many paths a tree of files has. -/
theorem flat_walk {S : Nat → Bool} {n : Nat} (hn : n < 100) (hS : ∀ i, S i = (decide (3 ≤ i) && decide (i ≤ n))) {l : List ByteArray} (h : WalkIs (flatM S) l) (h3 : 2 ≤ n) : l.length = n - 2 := by
  obtain ⟨_, LL, hL, hp⟩ := h
  have hm : ∀ l', l' ∈ LL ↔ l' ∈ (List.range' 3 (n - 2)).map fun i => [nm i] := fun l' => by
    rw [hL.2, List.mem_map]
    constructor
    · rintro ⟨hne, hg⟩
      cases l' with
      | nil => exact absurd rfl hne
      | cons s r =>
        rw [goE_cons, flat_ent] at hg
        cases hq : fnd S s with
        | none => rw [hq] at hg; cases hg
        | some i =>
          rw [hq] at hg
          obtain ⟨a, b, c⟩ := fnd_some hq
          rw [hS] at b
          simp only [Bool.and_eq_true, decide_eq_true_eq] at b
          obtain ⟨z, hz⟩ := Option.isSome_iff_exists.1 hg
          obtain ⟨rfl, _⟩ := goE_sub (ent_file (flat_file (S := S) (show i ≠ 2 by omega))) r z hz
          exact ⟨i, List.mem_range'_1.2 ⟨by omega, by omega⟩, by rw [c]⟩
    · rintro ⟨i, hi, rfl⟩
      have := List.mem_range'_1.1 hi
      refine ⟨by simp, ?_⟩
      rw [goE_cons, flat_ent, fnd_at (by omega) (by rw [hS]; simp; omega)]
      rfl
  have hnd : ((List.range' 3 (n - 2)).map fun i => [nm i]).Nodup := nodup_on List.nodup_range' fun a ha b hb e => by
    have h1 := List.mem_range'_1.1 ha
    have h2 := List.mem_range'_1.1 hb
    injection e with e _
    exact nm_inj a (by omega) b (by omega) e
  have := ((List.perm_ext_iff_of_nodup hL.1 hnd).2 hm).length_eq
  rw [hp.length_eq, List.length_map, this, List.length_map, List.length_range']
end Go.Proofs.Ytoofcnehoffllaa

namespace Go.Proofs.Ytoofcnehoffllaa
open Go.RowKit

/-- An argument of the type []int. -/
def ArgI (W : World) (v : Value) (xs : List Int) : Prop :=
  ∃ a c, v = .slice a xs.length c ∧ (0 < xs.length → ∃ g o, a = some ⟨g, o, none⟩ ∧ g < W.heap.size ∧ ∀ i, i < xs.length → W.cell? ⟨g, o + i, none⟩ = some (.int .i64 (xs.getD i 0)))
theorem rest_of (x : Int) (k : Nat) (hk : 0 < k) (hk2 : k ≤ 100000) : ∃ n : Nat, n < k ∧ RowKit.wrap64 ((IntKind.u64.wrap x).tmod (k : Int)) = (n : Int) := by
  have h0 : 0 ≤ IntKind.u64.wrap x := by simp only [IntKind.wrap, IntKind.signed, IntKind.bits]; simp; omega
  have h2 := Int.emod_lt_of_pos (IntKind.u64.wrap x) (show (0 : Int) < (k : Int) by omega)
  have h3 := Int.emod_nonneg (IntKind.u64.wrap x) (show (k : Int) ≠ 0 by omega)
  refine ⟨(IntKind.u64.wrap x % (k : Int)).toNat, by omega, ?_⟩
  rw [Int.tmod_eq_emod_of_nonneg h0]
  unfold RowKit.wrap64; omega
def rng (j : Nat) : Nat → Bool := fun i => decide (3 ≤ i) && decide (i < j)
def nMore : ByteArray := ⟨#[109, 111, 114, 101]⟩
theorem okMore : nameE nMore.data.toList = 0 := by decide
theorem pMore : (⟨#[47, 109, 111, 114, 101]⟩ : ByteArray) = pathS [nMore] false := rfl
theorem more_nm (i : Nat) : nm i ≠ nMore := fun h => by
  have h2 : (nm i).data.toList.length = nMore.data.toList.length := by rw [h]
  unfold nm at h2
  rw [data_mkS] at h2
  exact absurd (show (2 : Nat) = 4 from h2) (by decide)
theorem fnd_more (S : Nat → Bool) : fnd S nMore = none := fnd_none fun i _ _ => more_nm i
section
variable {cap : Nat} {S : Nat → Bool}
theorem flat_none {i : Nat} (h2 : i ≠ 2) (h : S i = false) : flatM S i = none := by unfold flatM; rw [if_neg h2, h]; rfl
/-- A file is made. -/
theorem flat_make (h : Good (flatM S) cap) {j : Nat} (hj : j < 100) (h3 : 3 ≤ j) (hS : S j = false) (hc : j < cap) (hl : ∀ y, 3 ≤ y → y < j → S y = true) : makeN (flatM S) cap (pathS [nm j] false) false = ((j : Int), 0, flatM (addS S j)) := by
  have hle : leastN (flatM S) cap cap 2 = some j := least_eq cap 2 j (fun y h1 h2 => by
    rw [flat_some]
    by_cases e : y = 2
    · rw [decide_eq_true e]; rfl
    · rw [hl y (by omega) h2, Bool.or_true]) (by omega) hc (flat_none (by omega) hS) (by omega)
  rw [root_make h (nm_ok j hj) (by rw [flat_ent]; exact fnd_none fun i hi hs hn => by rw [nm_inj i hi j hj hn, hS] at hs; cases hs) hle, flat_add hj (by omega)]
theorem rng_succ {j : Nat} (h3 : 3 ≤ j) : addS (rng j) j = rng (j + 1) := by
  funext i
  unfold addS rng
  by_cases e : i = j
  · subst e
    rw [decide_eq_true rfl, Bool.or_true, decide_eq_true h3, decide_eq_true (by omega)]; rfl
  · rw [decide_eq_false e, Bool.or_false]
    congr 1
    rw [decide_eq_decide]; omega
theorem sub_add {k : Nat} (hk : S k = true) : addS (subS S k) k = S := by
  funext i
  unfold addS subS
  by_cases e : i = k
  · subst e; rw [decide_eq_true rfl, Bool.or_true, hk]
  · rw [decide_eq_false e]; simp
/-- A round of the law. -/
theorem flat_round {n k : Nat} (hn : n < 100) (h : Good (flatM (rng (n + 1))) (n + 1)) (hk : 3 ≤ k ∧ k ≤ n) :
    makeN (flatM (rng (n + 1))) (n + 1) ⟨#[47, 109, 111, 114, 101]⟩ true = (0, 23, flatM (rng (n + 1))) ∧
    goneN (flatM (rng (n + 1))) (pathS [nm k] false) false = (0, flatM (subS (rng (n + 1)) k)) ∧
    (Good (flatM (subS (rng (n + 1)) k)) (n + 1) → makeN (flatM (subS (rng (n + 1)) k)) (n + 1) ⟨#[47, 109, 111, 114, 101]⟩ true = ((k : Int), 0, addM (flatM (subS (rng (n + 1)) k)) k (freshNd true) 2 nMore) ∧
      goneN (addM (flatM (subS (rng (n + 1)) k)) k (freshNd true) 2 nMore) ⟨#[47, 109, 111, 114, 101]⟩ true = (0, flatM (subS (rng (n + 1)) k)) ∧
      makeN (flatM (subS (rng (n + 1)) k)) (n + 1) (pathS [nm k] false) false = ((k : Int), 0, flatM (rng (n + 1)))) := by
  have hSk : rng (n + 1) k = true := by unfold rng; simp; omega
  have hS : ∀ y, 3 ≤ y → y < n + 1 → rng (n + 1) y = true := fun y h1 h2 => by unfold rng; simp; omega
  have hk0 : subS (rng (n + 1)) k k = false := by unfold subS; simp
  have hle : leastN (flatM (subS (rng (n + 1)) k)) (n + 1) (n + 1) 2 = some k := least_eq (n + 1) 2 k (fun y h1 h2 => by
    rw [flat_some]
    by_cases e : y = 2
    · rw [decide_eq_true e]; rfl
    · rw [decide_eq_false e, Bool.false_or]
      unfold subS
      rw [hS y (by omega) (by omega), decide_eq_false (by omega)]; rfl) (by omega) (by omega) (flat_none (by omega) hk0) (by omega)
  refine ⟨?_, ?_, fun h' => ⟨?_, ?_, ?_⟩⟩
  · rw [pMore]
    exact root_full h okMore (by rw [flat_ent]; exact fnd_more _) (least_full (n + 1) 2 fun y h1 h2 => by
      rw [flat_some]
      by_cases e : y = 2
      · rw [decide_eq_true e]; rfl
      · rw [hS y (by omega) h2, Bool.or_true])
  · rw [root_gone (nm_ok k (by omega)) (by rw [flat_ent]; exact fnd_at (by omega) hSk) (wrong_file (flat_file (by omega))), flat_drop (by omega) (by omega) hSk]
  · rw [pMore]
    exact root_make h' okMore (by rw [flat_ent]; exact fnd_more _) hle
  · have hz : flatM (subS (rng (n + 1)) k) k = none := flat_none (by omega) hk0
    have hp := h'.1.ok.root
    have hs : entN (flatM (subS (rng (n + 1)) k)) 2 nMore = none := by rw [flat_ent]; exact fnd_more _
    have hd : isDir (addM (flatM (subS (rng (n + 1)) k)) k (freshNd true) 2 nMore) k = true := by rw [isDir_of addM_i]; rfl
    rw [pMore, root_gone okMore (i := k) (by rw [ent_add hp hz, putE_self]) (wrong_dir hd fun t => by rw [entN_of addM_i]; rfl), add_drop hz hp hs]
  · have := flat_make h' (j := k) (by omega) hk.1 hk0 (by omega) (fun y h1 h2 => by unfold subS; rw [hS y h1 (by omega), decide_eq_false (by omega)]; rfl)
    rw [sub_add hSk] at this
    exact this
end
set_option maxHeartbeats 4000000 in
set_option maxRecDepth 100000 in
theorem lawNew_any (a : Int) (gv : Value) (xs : List Int) (W : World) (hx : ArgI W gv xs) : Calls Try.prog 3 #[.int .i64 a, gv] W fun e w' => e = .returned (.bool true) ∧ Below W.heap.size W w' := by
  obtain ⟨m, hm, hr⟩ := rest_of a 60 (by decide) (by decide)
  have hr : RowKit.wrap64 ((IntKind.u64.wrap a).tmod 60) = (m : Int) := hr
  have hm' : (m : Int) < 60 := by omega
  have hm0 : (0 : Int) ≤ (m : Int) := by omega
  have HA := Lib.hid (awake_any W)
  have HX := Lib.hid hx
  obtain ⟨N, hN⟩ : ∃ N, N = m + 4 := ⟨_, rfl⟩
  have hNi : (m : Int) + 4 = (N : Int) := by omega
  have n4 : (4 : Int) ≤ (N : Int) := by omega
  have n6 : (N : Int) ≤ 63 := by omega
  have n4' : 4 ≤ N := by omega
  have n6' : N ≤ 63 := by omega
  obtain ⟨ga, gc, rfl⟩ : ∃ a c, gv = .slice a xs.length c := by
    obtain ⟨a, c, h, _⟩ := hx
    exact ⟨a, c, h⟩
  clear hx hN
  go_enter Try.func3, Try.ntmps3
  go_wp2_with fail
  refine HA.out.mono ?_
  rintro e w1 ⟨rfl, hb1⟩
  have HB1 := Lib.hid hb1
  have HN := Lib.hid (new_any n4' (by omega) w1)
  clear hb1 HA
  go_wp2_with fail
  refine HN.out.mono ?_
  rintro e w2 ⟨tb, nb, eb, b2, rfl, hT, h1, h2, h3, h4, hb2⟩
  have hs1 := HB1.out.size
  have L0 := LAt.new (w0 := W) n4' hT (by omega) (by omega) (by omega) (by omega) (below_call HB1.out hb2 (Nat.le_refl _))
  rw [newM_flat, show (fun _ => false) = rng 3 by funext i; unfold rng; by_cases h : 3 ≤ i <;> simp [h]] at L0
  have HL0 := Lib.hid L0
  clear HN hT h1 h2 h3 h4 hb2 hs1 L0 hr hm' hm0 hNi
  go_wp2_with fail
  go_loopw [8] (fun i wy => ∃ j : Nat, 3 ≤ j ∧ j ≤ N + 1 ∧ i = .int .i64 j ∧ LAt W wy tb (N + 1) (flatM (rng j))) (fun i _ => N + 1 - (RowKit.intOf i).toNat)
  case atStart => exact ⟨3, by omega, by omega, rfl, HL0.out⟩
  case round =>
    obtain ⟨j, hj3, hjN, rfl, hL⟩ := hrel
    have HL := Lib.hid hL
    clear hL HL0
    by_cases hj : j ≤ N
    · have q1 : (j : Int) ≤ (N : Int) := by omega
      have HNM := Lib.hid (nameNew_any wr j (by omega))
      go_wp2_with fail
      refine HNM.out.mono ?_
      rintro e w3 ⟨rfl, hb3⟩
      have hL3 := HL.out.below hb3
      have hC := hL3.create (pathS [nm j] false) (by have := (one_name (nm_ok j (by omega))).2.1; rw [List.nil_append] at this; omega)
      rw [flat_make hL3.good (by omega) hj3 (by unfold rng; simp) (by omega) (fun y h1 h2 => by unfold rng; simp; omega), rng_succ hj3] at hC
      have HC := Lib.hid hC
      clear hb3 hL3 hC HNM
      generalize pathS [nm j] false = q at *
      go_wp2_with fail
      refine HC.out.mono ?_
      rintro e w4 ⟨rfl, hL4⟩
      have HL4 := Lib.hid hL4
      clear hL4 HC
      go_wp2_with fail
      go_roundw
      case rel => exact ⟨j + 1, by omega, by omega, by go_num, HL4.out⟩
      case measure => simp only [RowKit.intOf]; omega
    · obtain rfl : j = N + 1 := by omega
      have q1 : ¬ ((N + 1 : Nat) : Int) ≤ (N : Int) := by omega
      go_wp2_with fail
      clear q1
      go_loopw [11] (fun i wy => ∃ t : Nat, t ≤ xs.length ∧ t ≤ 40 ∧ i = .int .i64 t ∧ LAt W wy tb (N + 1) (flatM (rng (N + 1)))) (fun i _ => xs.length - (RowKit.intOf i).toNat)
      case atStart => exact ⟨0, by omega, by omega, rfl, HL.out⟩
      case round =>
        obtain ⟨t, ht, ht40, rfl, hL⟩ := hrel
        have HLT := Lib.hid hL
        clear hL HL
        by_cases htl : t < xs.length ∧ t < 40
        · obtain ⟨c1, c2⟩ := htl
          have q1 : decide ((t : Int) < (xs.length : Int)) = true := dec_true (by omega)
          have q2 : decide ((t : Int) < 40) = true := dec_true (by omega)
          have q3 : (t : Int) < (xs.length : Int) := by omega
          have q4 : (0 : Int) ≤ (t : Int) := by omega
          obtain ⟨ga', gc', e1, hcell⟩ := HX.out
          injection e1 with e1 _ e3
          subst e1 e3
          obtain ⟨g, o, rfl, hg, hcell⟩ := hcell (by omega)
          have hc := (cell_below HLT.out.bel hg).trans (hcell t c1)
          generalize xs.getD t 0 = x at hc
          obtain ⟨k0, hk0, hr⟩ := rest_of x (N - 2) (by omega) (by omega)
          have hr : RowKit.wrap64 ((IntKind.u64.wrap x).tmod ((N : Int) - 2)) = (k0 : Int) := by
            rw [show (N : Int) - 2 = ((N - 2 : Nat) : Int) by omega]; exact hr
          obtain ⟨k, hk⟩ : ∃ k, k = k0 + 3 := ⟨_, rfl⟩
          have hki : (k0 : Int) + 3 = (k : Int) := by omega
          have hk1 : 3 ≤ k ∧ k ≤ N := by omega
          have hkb : (k0 : Int) ≤ 63 := by omega
          have hk00 : (0 : Int) ≤ (k0 : Int) := by omega
          have hk9 : k < 100 := by omega
          obtain ⟨r1, r2, r3⟩ := flat_round (n := N) (k := k) (by omega) HLT.out.good hk1
          have hC1 := HLT.out.mkdir ⟨#[47, 109, 111, 114, 101]⟩ (by decide)
          rw [r1] at hC1
          have HC1 := Lib.hid hC1; have R2 := Lib.hid r2; have R3 := Lib.hid r3
          have hpz : (pathS [nm k] false).size ≤ 1000000 := by have := (one_name (nm_ok k hk9)).2.1; rw [List.nil_append] at this; omega
          have HNM := Lib.hid (fun w => nameNew_any w k hk9)
          generalize hq : pathS [nm k] false = q at *
          generalize hS1 : subS (rng (N + 1)) k = S1 at *
          generalize hM2 : addM (flatM S1) k (freshNd true) 2 nMore = M2 at *
          clear hcell hk r1 r2 r3 hC1 hq hS1 hM2 hk0
          go_wp2_with fail
          refine HC1.out.mono ?_
          rintro e w3 ⟨rfl, hL3⟩
          have HL3 := Lib.hid hL3
          clear hL3 HC1 hc hr
          go_wp2_with fail
          refine (HNM.out w3).mono ?_
          rintro e w4 ⟨rfl, hb4⟩
          have hC2 := (HL3.out.below hb4).unlink q hpz
          rw [R2.out] at hC2
          have HC2 := Lib.hid hC2
          clear hb4 hC2 HL3
          go_wp2_with fail
          refine HC2.out.mono ?_
          rintro e w5 ⟨rfl, hL5⟩
          obtain ⟨s1, s2, s3⟩ := R3.out hL5.good
          have hC3 := hL5.mkdir ⟨#[47, 109, 111, 114, 101]⟩ (by decide)
          rw [s1] at hC3
          have HC3 := Lib.hid hC3; have Q2 := Lib.hid s2; have Q3 := Lib.hid s3
          clear hL5 hC3 s1 s2 s3 R3 R2 HC2
          go_wp2_with fail
          refine HC3.out.mono ?_
          rintro e w6 ⟨rfl, hL6⟩
          have hC4 := hL6.rmdir ⟨#[47, 109, 111, 114, 101]⟩ (by decide)
          rw [Q2.out] at hC4
          have HC4 := Lib.hid hC4
          clear hL6 hC4 Q2 HC3
          go_wp2_with fail
          refine HC4.out.mono ?_
          rintro e w7 ⟨rfl, hL7⟩
          have HL7 := Lib.hid hL7
          clear hL7 HC4
          go_wp2_with fail
          refine (HNM.out w7).mono ?_
          rintro e w8 ⟨rfl, hb8⟩
          have hC5 := (HL7.out.below hb8).create q hpz
          rw [Q3.out] at hC5
          have HC5 := Lib.hid hC5
          clear hb8 hC5 HL7 Q3 HNM
          go_wp2_with fail
          refine HC5.out.mono ?_
          rintro e w9 ⟨rfl, hL9⟩
          have HL9 := Lib.hid hL9
          clear hL9 HC5
          go_wp2_with fail
          go_roundw
          case rel => exact ⟨t + 1, by omega, by omega, by go_num, HL9.out⟩
          case measure => simp only [RowKit.intOf]; omega
        · have HWK := Lib.hid HLT.out.walk
          have q3 : (N : Int) - 2 = ((N - 2 : Nat) : Int) := by omega
          by_cases htl2 : t < xs.length
          · obtain rfl : t = 40 := by omega
            have q1 : decide (((40 : Nat) : Int) < (xs.length : Int)) = true := dec_true (by omega)
            have q2 : decide (((40 : Nat) : Int) < 40) = false := dec_false (by omega)
            have q4 : (40 : Int) < (xs.length : Int) := by omega
            go_wp2_with fail
            refine HWK.out.mono ?_
            rintro e w3 ⟨v, l, rfl, hl, -, hst, hb3⟩
            have hlen := flat_walk (n := N) (by omega) (fun i => by unfold rng; congr 1; rw [decide_eq_decide]; omega) hl (by omega)
            obtain ⟨a, c, rfl⟩ := hst.shape
            have HB3 := Lib.hid (HLT.out.below hb3).bel
            rw [hlen]
            clear hst hb3 hl HWK q1 q2 q4
            go_wp2_with fail
            go_ret
            exact ⟨by simp, HB3.out⟩
          · obtain rfl : t = xs.length := by omega
            have q1 : decide ((xs.length : Int) < (xs.length : Int)) = false := dec_false (by omega)
            go_wp2_with fail
            refine HWK.out.mono ?_
            rintro e w3 ⟨v, l, rfl, hl, -, hst, hb3⟩
            have hlen := flat_walk (n := N) (by omega) (fun i => by unfold rng; congr 1; rw [decide_eq_decide]; omega) hl (by omega)
            obtain ⟨a, c, rfl⟩ := hst.shape
            have HB3 := Lib.hid (HLT.out.below hb3).bel
            rw [hlen]
            clear hst hb3 hl HWK q1
            go_wp2_with fail
            go_ret
            exact ⟨by simp, HB3.out⟩
end Go.Proofs.Ytoofcnehoffllaa

namespace Go.Proofs.Ytoofcnehoffllaa
open Go.RowKit

/-- The file 3 with the names of a set, and c links. -/
def oneM (T : ByteArray → Bool) (c : Int) : TM := fun x => if x = 2 then some ⟨some fun s => if T s then some 3 else none, [], 1⟩ else if x = 3 then some ⟨none, [], c⟩ else none
section
variable {T : ByteArray → Bool} {c : Int}
theorem one_root : oneM T c 2 = some ⟨some fun s => if T s then some 3 else none, [], 1⟩ := if_pos rfl
theorem one_three : oneM T c 3 = some ⟨none, [], c⟩ := by unfold oneM; rw [if_neg (by decide), if_pos rfl]
theorem one_ent (s : ByteArray) : entN (oneM T c) 2 s = if T s then some 3 else none := by rw [entN_of one_root]
theorem one_ent' : entN (oneM T c) 2 = fun s => if T s then some 3 else none := by funext s; exact one_ent s
theorem one_file : isDir (oneM T c) 3 = false := by rw [isDir_of one_three]; rfl
theorem one_lk : lkN (oneM T c) 3 = c := by rw [lkN_of one_three]
theorem one_dat : datN (oneM T c) 3 = [] := by rw [datN_of one_three]
def addT (T : ByteArray → Bool) (s : ByteArray) : ByteArray → Bool := fun t => T t || decide (t = s)
def subT (T : ByteArray → Bool) (s : ByteArray) : ByteArray → Bool := fun t => T t && !decide (t = s)
theorem upd_add {s : ByteArray} : updE (fun s => if T s then some 3 else none) s (some 3) = fun t => if addT T s t then some 3 else none := by
  funext t
  unfold updE addT
  by_cases e : t = s
  · rw [if_pos e, decide_eq_true e, Bool.or_true]; rfl
  · rw [if_neg e, decide_eq_false e, Bool.or_false]
theorem upd_sub {s : ByteArray} : updE (fun s => if T s then some 3 else none) s none = fun t => if subT T s t then some 3 else none := by
  funext t
  unfold updE subT
  by_cases e : t = s
  · rw [if_pos e, decide_eq_true e, Bool.not_true, Bool.and_false]; rfl
  · rw [if_neg e, decide_eq_false e, Bool.not_false, Bool.and_true]
theorem one_link {s : ByteArray} : linkM (oneM T c) 2 s 3 = oneM (addT T s) (c + 1) := by
  unfold linkM
  rw [one_lk, one_dat, one_ent', upd_add]
  funext x
  by_cases e2 : x = 2
  · rw [e2, setE_p (q := ⟨some fun s => if T s then some 3 else none, [], 1⟩) (by rw [setN_o (by decide)]; exact one_root), one_root]
  · rw [setE_o e2]
    by_cases e3 : x = 3
    · rw [e3, setN_i one_three, one_three]
    · rw [setN_o e3]
      unfold oneM
      rw [if_neg e2, if_neg e3, if_neg e2, if_neg e3]
theorem one_drop {s : ByteArray} (hc : c ≠ 1) : dropT (oneM T c) 2 s 3 = oneM (subT T s) (c - 1) := by
  unfold dropT
  rw [one_three]
  show dropM (oneM T c) 2 (entN (oneM T c) 2) s 3 ⟨none, [], c⟩ = _
  unfold dropM
  rw [if_neg (show ¬ c - 1 = 0 by omega), one_ent', upd_sub]
  funext x
  by_cases e3 : x = 3
  · rw [e3, setN_i (q := ⟨none, [], c⟩) (by rw [setE_o (by decide)]; exact one_three), one_three]
  · rw [setN_o e3]
    by_cases e2 : x = 2
    · rw [e2, setE_p one_root, one_root]
    · rw [setE_o e2]
      unfold oneM
      rw [if_neg e2, if_neg e3, if_neg e2, if_neg e3]
theorem one_last {s : ByteArray} : dropT (oneM (fun t => decide (t = s)) 1) 2 s 3 = newM := by
  unfold dropT
  rw [one_three]
  show dropM (oneM (fun t => decide (t = s)) 1) 2 (entN (oneM (fun t => decide (t = s)) 1) 2) s 3 ⟨none, [], 1⟩ = _
  unfold dropM
  rw [if_pos (by decide), one_ent', upd_sub]
  funext x
  unfold killM
  by_cases e3 : x = 3
  · rw [if_pos e3, e3]
    exact (if_neg (by decide)).symm
  · rw [if_neg e3, setN_o e3]
    by_cases e2 : x = 2
    · rw [e2, setE_p one_root]
      unfold newM
      rw [if_pos rfl]
      have : (fun t => if subT (fun t => decide (t = s)) s t then some 3 else none) = fun _ => (none : Option Nat) := by
        funext t
        unfold subT
        by_cases e : t = s
        · simp [e]
        · simp [e]
      rw [this]
    · rw [setE_o e2]
      unfold oneM newM
      rw [if_neg e2, if_neg e3, if_neg e2]
theorem one_new {s : ByteArray} : addM newM 3 (freshNd false) 2 s = oneM (fun t => decide (t = s)) 1 := by
  funext x
  by_cases e3 : x = 3
  · rw [e3, addM_i, one_three]; rfl
  · by_cases e2 : x = 2
    · rw [e2, addM_p (q := ⟨some fun _ => none, [], 1⟩) (by decide) rfl, one_root]
      have : updE (fun _ => none) s (some 3) = fun t => if decide (t = s) then some 3 else none := by
        funext t
        unfold updE
        by_cases e : t = s
        · rw [if_pos e, decide_eq_true e]; rfl
        · rw [if_neg e, decide_eq_false e]; rfl
      show some (Nd.mk (some (updE (fun _ => none) s (some 3))) [] 1) = _
      rw [this]
    · rw [addM_o e3 e2]
      unfold oneM newM
      rw [if_neg e2, if_neg e2, if_neg e3]
theorem new_least {cap : Nat} (hc : 5 ≤ cap) : leastN newM cap cap 2 = some 3 := least_eq cap 2 3 (fun y h1 h2 => by have e : y = 2 := (by omega); subst e; rfl) (by decide) (by omega) rfl (by omega)
/-- A name more of the file, by one of its names. -/
theorem one_Link {cap : Nat} (h : Good (oneM T c) cap) {s t : ByteArray} (hs : nameE s.data.toList = 0) (ht : nameE t.data.toList = 0) (hS : T s = true) (hT : T t = false) :
    linkN (oneM T c) (pathS [s] false) (pathS [t] false) = if c = 100 then (31, oneM T c) else (0, oneM (addT T t) (c + 1)) := by
  obtain ⟨a, b, _⟩ := one_name hs
  obtain ⟨a', b', _⟩ := one_name ht
  obtain ⟨p1, p2, p3⟩ := par_path (d := false) a' b'
  have h0 := (path_split a (by simp) b).1
  have hd := (path_split a' (by simp) b').2.2
  rw [List.nil_append] at p1 p2 p3 h0 hd
  rw [link_at h0 p1 p2 p3 (root_look hs (i := 3) (by rw [one_ent, hS]; rfl)) one_file root_lead h.1.ok.root (by rw [one_ent, hT]; rfl) hd, one_lk, one_link]
theorem one_Unlink {s : ByteArray} (hs : nameE s.data.toList = 0) (hS : T s = true) (hc : c ≠ 1) : goneN (oneM T c) (pathS [s] false) false = (0, oneM (subT T s) (c - 1)) := by
  rw [root_gone hs (i := 3) (by rw [one_ent, hS]; rfl) (wrong_file one_file), one_drop hc]
theorem one_noLink {cap : Nat} (h : Good (oneM T c) cap) {s : ByteArray} (hs : nameE s.data.toList = 0) (hS : T s = false) : goneN (oneM T c) (pathS [s] false) false = (2, oneM T c) :=
  root_none h hs (by rw [one_ent, hS]; rfl)
theorem one_stat {s : ByteArray} (hs : nameE s.data.toList = 0) (hS : T s = true) : statN (oneM T c) (pathS [s] false) = ((3, 1, c, 0), 0) := by
  unfold statN
  rw [root_look hs (i := 3) (by rw [one_ent, hS]; rfl)]
  dsimp only
  rw [one_file, one_lk, one_dat]
  rfl
end
/-- The names from 0 on. -/
def upT (i : Nat) : ByteArray → Bool := fun t => (List.range i).any fun j => decide (nm j = t)
/-- The names from i on but one, and one more. -/
def dnT (i g : Nat) : ByteArray → Bool := fun t => (List.range 100).any (fun j => decide (i ≤ j) && !decide (j = g) && decide (nm j = t)) || decide (t = nMore)
theorem upT_nm {i j : Nat} (hi : i ≤ 100) (hj : j < 100) : upT i (nm j) = decide (j < i) := by
  unfold upT
  rw [Bool.eq_iff_iff, List.any_eq_true, decide_eq_true_eq]
  constructor
  · rintro ⟨k, hk, e⟩
    have hk := List.mem_range.1 hk
    rw [decide_eq_true_eq] at e
    rw [← nm_inj k (by omega) j hj e]; exact hk
  · intro h
    exact ⟨j, List.mem_range.2 h, by simp⟩
theorem upT_more {i : Nat} : upT i nMore = false := by
  unfold upT
  rw [Bool.eq_false_iff]
  intro h
  obtain ⟨k, _, e⟩ := List.any_eq_true.1 h
  rw [decide_eq_true_eq] at e
  exact more_nm k e
theorem upT_zero : (fun t => decide (t = nm 0)) = upT 1 := by
  funext t
  show _ = ([0].any fun j => decide (nm j = t))
  rw [List.any_cons, List.any_nil, Bool.or_false, decide_eq_decide]
  exact ⟨Eq.symm, Eq.symm⟩
theorem upT_add {i : Nat} : addT (upT i) (nm i) = upT (i + 1) := by
  funext t
  unfold addT upT
  rw [List.range_succ, List.any_append, List.any_cons, List.any_nil, Bool.or_false]
  congr 1
  rw [decide_eq_decide]
  exact ⟨Eq.symm, Eq.symm⟩
theorem dnT_nm {i g j : Nat} (hj : j < 100) : dnT i g (nm j) = (decide (i ≤ j) && !decide (j = g)) := by
  unfold dnT
  rw [decide_eq_false (more_nm j), Bool.or_false, Bool.eq_iff_iff, List.any_eq_true]
  constructor
  · rintro ⟨k, hk, e⟩
    rw [Bool.and_eq_true, decide_eq_true_eq] at e
    have := nm_inj k (List.mem_range.1 hk) j hj e.2
    subst this
    exact e.1
  · intro h
    exact ⟨j, List.mem_range.2 hj, by rw [h, decide_eq_true rfl]; rfl⟩
theorem dnT_more {i g : Nat} : dnT i g nMore = true := by
  unfold dnT
  rw [decide_eq_true rfl, Bool.or_true]
theorem dnT_start {g : Nat} (hg : g < 100) : addT (subT (upT 100) (nm g)) nMore = dnT 0 g := by
  funext t
  unfold addT dnT
  congr 1
  rw [Bool.eq_iff_iff]
  unfold subT upT
  rw [Bool.and_eq_true, List.any_eq_true, List.any_eq_true]
  constructor
  · rintro ⟨⟨k, hk, e⟩, hne⟩
    refine ⟨k, hk, ?_⟩
    simp only [decide_eq_true_eq, Bool.not_eq_true', decide_eq_false_iff_not, Bool.and_eq_true] at e hne ⊢
    exact ⟨⟨by omega, fun hkg => hne (by rw [← e, hkg])⟩, e⟩
  · rintro ⟨k, hk, h⟩
    simp only [decide_eq_true_eq, Bool.not_eq_true', decide_eq_false_iff_not, Bool.and_eq_true] at h
    refine ⟨⟨k, hk, by rw [decide_eq_true h.2]⟩, ?_⟩
    simp only [decide_eq_false_iff_not, Bool.not_eq_true']
    intro e
    exact h.1.2 (nm_inj k (List.mem_range.1 hk) g hg (by rw [h.2, e]))
theorem dnT_step {i g : Nat} (hi : i < 100) (_hg : i ≠ g) : subT (dnT i g) (nm i) = dnT (i + 1) g := by
  funext t
  unfold subT dnT
  by_cases hm : t = nMore
  · rw [decide_eq_true hm, Bool.or_true, Bool.or_true, decide_eq_false (fun e => more_nm i (by rw [← e, hm]))]; rfl
  · rw [decide_eq_false hm, Bool.or_false, Bool.or_false, Bool.eq_iff_iff, Bool.and_eq_true, List.any_eq_true, List.any_eq_true]
    constructor
    · rintro ⟨⟨k, hk, e⟩, hne⟩
      refine ⟨k, hk, ?_⟩
      simp only [decide_eq_true_eq, Bool.not_eq_true', decide_eq_false_iff_not, Bool.and_eq_true] at e hne ⊢
      refine ⟨⟨?_, e.1.2⟩, e.2⟩
      by_cases hki : k = i
      · exact absurd (by rw [← e.2, hki]) hne
      · omega
    · rintro ⟨k, hk, h⟩
      simp only [decide_eq_true_eq, Bool.not_eq_true', decide_eq_false_iff_not, Bool.and_eq_true] at h
      refine ⟨⟨k, hk, ?_⟩, ?_⟩
      · simp only [decide_eq_true_eq, Bool.not_eq_true', decide_eq_false_iff_not, Bool.and_eq_true]
        exact ⟨⟨by omega, h.1.2⟩, h.2⟩
      · simp only [decide_eq_false_iff_not, Bool.not_eq_true']
        intro e
        have := nm_inj k (List.mem_range.1 hk) i hi (by rw [h.2, e])
        omega
theorem dnT_skip {g : Nat} : dnT g g = dnT (g + 1) g := by
  funext t
  unfold dnT
  congr 1
  rw [Bool.eq_iff_iff, List.any_eq_true, List.any_eq_true]
  constructor
  · rintro ⟨k, hk, e⟩
    simp only [decide_eq_true_eq, Bool.not_eq_true', decide_eq_false_iff_not, Bool.and_eq_true] at e
    refine ⟨k, hk, ?_⟩
    simp only [decide_eq_true_eq, Bool.not_eq_true', decide_eq_false_iff_not, Bool.and_eq_true]
    exact ⟨⟨by omega, e.1.2⟩, e.2⟩
  · rintro ⟨k, hk, e⟩
    simp only [decide_eq_true_eq, Bool.not_eq_true', decide_eq_false_iff_not, Bool.and_eq_true] at e
    refine ⟨k, hk, ?_⟩
    simp only [decide_eq_true_eq, Bool.not_eq_true', decide_eq_false_iff_not, Bool.and_eq_true]
    exact ⟨⟨by omega, e.1.2⟩, e.2⟩
theorem dnT_end {g : Nat} : dnT 100 g = fun t => decide (t = nMore) := by
  funext t
  unfold dnT
  have : ((List.range 100).any fun j => decide (100 ≤ j) && !decide (j = g) && decide (nm j = t)) = false := by
    rw [Bool.eq_false_iff]
    intro h
    obtain ⟨k, hk, e⟩ := List.any_eq_true.1 h
    have := List.mem_range.1 hk
    simp only [decide_eq_true_eq, Bool.not_eq_true', decide_eq_false_iff_not, Bool.and_eq_true] at e
    omega
  rw [this, Bool.false_or]
/-- All paths of a tree whose root has one file. -/
theorem walk_one {M : TM} {a : ByteArray} {i : Nat} (ha : entN M 2 a = some i) (hno : ∀ x, x ≠ a → entN M 2 x = none) (hi : isDir M i = false) {l : List ByteArray} (h : WalkIs M l) : l = [pathS [a] false] := by
  obtain ⟨h1, LL, hL, hp⟩ := h
  have ga : goE (entN M) 2 [a] = some i := by rw [goE_cons, ha]; rfl
  have hm : ∀ l', l' ∈ LL ↔ l' ∈ [[a]] := fun l' => by
    rw [hL.2]
    constructor
    · rintro ⟨hn, hg⟩
      cases l' with
      | nil => exact absurd rfl hn
      | cons x r =>
        rw [goE_cons] at hg
        by_cases e1 : x = a
        · subst e1
          rw [ha] at hg
          obtain ⟨z, hz⟩ := Option.isSome_iff_exists.1 hg
          rw [(goE_sub (ent_file hi) r z hz).1]; simp
        · rw [hno x e1] at hg; cases hg
    · intro h
      rw [List.mem_singleton] at h
      subst h
      exact ⟨by simp, by rw [ga]; rfl⟩
  have hpp := (List.perm_ext_iff_of_nodup hL.1 (by simp)).2 hm
  have := hp.trans (hpp.map (pathAt M))
  rw [List.map_cons, List.map_nil, pathAt_of ga, hi] at this
  exact List.perm_singleton.1 this
end Go.Proofs.Ytoofcnehoffllaa

namespace Go.Proofs.Ytoofcnehoffllaa
open Go.RowKit

def nX : ByteArray := ⟨#[120]⟩
theorem okX : nameE nX.data.toList = 0 := by decide
theorem pX : (⟨#[47, 120]⟩ : ByteArray) = pathS [nX] false := rfl
set_option maxRecDepth 100000 in
theorem nameLinks_any (w : World) (i : Nat) (hi : i < 100) : Calls Try.prog 16 #[.int .i64 i] w fun e w' => e = .returned (.string (pathS [nm i] false)) ∧ Below w.heap.size w w' := by
  have h0 : (0 : Int) ≤ (i : Int) := by omega
  have h1 : (i : Int) < 100 := by omega
  have hs := name_two i hi
  have hsz : ¬ 9223372036854775807 < (⟨#[47]⟩ : ByteArray).size + (strOfNums [97 + (i : Int) / 10, 48 + (i : Int) % 10]).size := by
    have := Lib.size_eq (strOfNums [97 + (i : Int) / 10, 48 + (i : Int) % 10])
    unfold strOfNums at *
    simp at this ⊢
    have : (⟨#[47]⟩ : ByteArray).size = 1 := rfl
    omega
  have hc : (convert 29 9 (.slice (some ⟨w.heap.size, 0, none⟩) 2 2)).run Try.prog (w.alloc (.cells #[.int .u8 (97 + (i : Int) / 10), .int .u8 (48 + (i : Int) % 10)] 5)) = .ok (.string (strOfNums [97 + (i : Int) / 10, 48 + (i : Int) % 10])) (w.alloc (.cells #[.int .u8 (97 + (i : Int) / 10), .int .u8 (48 + (i : Int) % 10)] 5)) :=
    SrcG.str (x := [97 + (i : Int) / 10, 48 + (i : Int) % 10]) (SrcG.block (xs := u8s [97 + (i : Int) / 10, 48 + (i : Int) % 10]) (blk_new rfl) rfl (u8s_one _))
  have HB := Lib.hid ((Below.refl _ w).alloc (Nat.le_refl _) (.cells #[.int .u8 (97 + (i : Int) / 10), .int .u8 (48 + (i : Int) % 10)] 5))
  generalize strOfNums [97 + (i : Int) / 10, 48 + (i : Int) % 10] = q at *
  generalize pathS [nm i] false = r at *
  go_enter Try.func16, Try.ntmps16
  go_wp2_with fail
  go_ret
  exact ⟨rfl, HB.out⟩
theorem nm_size (i : Nat) (hi : i < 100) : (pathS [nm i] false).size ≤ 1000000 := by have := (one_name (nm_ok i hi)).2.1; rw [List.nil_append] at this; omega
theorem LAt.stat {w0 w : World} {tb cap : Nat} {M : TM} (h : LAt w0 w tb cap M) (s : ByteArray) (hs : s.size ≤ 1000000) :
    Calls Try.prog 18 #[.pointer (some ⟨tb, 0, none⟩), .string s] w fun e w' => e = .returned (.tuple #[statV (statN M s).1, .int .i64 (statN M s).2]) ∧ Below w.heap.size w w' := stat_any h.at_ h.good.1 s hs
/-- How many names the file has still. -/
def cntL (i g : Nat) : Int := 101 - i - (if i ≤ g then 1 else 0)
set_option maxHeartbeats 8000000 in
set_option maxRecDepth 100000 in
theorem lawLinks_any (a : Int) (W : World) : Calls Try.prog 4 #[.int .i64 a] W fun e w' => e = .returned (.bool true) ∧ Below W.heap.size W w' := by
  obtain ⟨g, hg, hr⟩ := rest_of a 100 (by decide) (by decide)
  have hr : RowKit.wrap64 ((IntKind.u64.wrap a).tmod 100) = (g : Int) := hr
  have HA := Lib.hid (awake_any W)
  have HR := Lib.hid hr
  clear hr
  go_enter Try.func4, Try.ntmps4
  go_wp2_with fail
  refine HA.out.mono ?_
  rintro e w1 ⟨rfl, hb1⟩
  have HB1 := Lib.hid hb1
  have HN := Lib.hid (new_any (n := 5) (by decide) (by decide) w1)
  clear hb1 HA
  go_wp2_with fail
  refine HN.out.mono ?_
  rintro e w2 ⟨tb, nb, eb, b2, rfl, hT, h1, h2, h3, h4, hb2⟩
  have hs1 := HB1.out.size
  have L0 := LAt.new (w0 := W) (by decide) hT (by omega) (by omega) (by omega) (by omega) (below_call HB1.out hb2 (Nat.le_refl _))
  have HL0 := Lib.hid L0
  have HNM := Lib.hid nameLinks_any
  clear HN hT h1 h2 h3 h4 hb2 hs1 L0
  go_wp2_with fail
  refine (HNM.out w2 0 (by decide)).mono ?_
  rintro e w3 ⟨rfl, hb3⟩
  have hC := (HL0.out.below hb3).create (pathS [nm 0] false) (nm_size 0 (by decide))
  rw [root_make (HL0.out.good) (nm_ok 0 (by decide)) (newM_ent _ _) (new_least (by decide)), one_new, upT_zero] at hC
  have HC := Lib.hid hC
  clear hb3 hC HL0
  generalize hq0 : pathS [nm 0] false = q0 at *
  clear hq0
  go_wp2_with fail
  refine HC.out.mono ?_
  rintro e w4 ⟨rfl, hL4⟩
  have HL4 := Lib.hid hL4
  clear hL4 HC
  go_wp2_with fail
  go_loopw [7] (fun i wy => ∃ j : Nat, 1 ≤ j ∧ j ≤ 100 ∧ i = .int .i64 j ∧ LAt W wy tb 6 (oneM (upT j) j)) (fun i _ => 100 - (RowKit.intOf i).toNat)
  case atStart => exact ⟨1, by omega, by omega, rfl, HL4.out⟩
  case round =>
    obtain ⟨j, hj1, hj100, rfl, hL⟩ := hrel
    have HL := Lib.hid hL
    clear hL HL4
    by_cases hj : j < 100
    · have q1 : (j : Int) < 100 := by omega
      obtain ⟨i, hi⟩ : ∃ i, j = i + 1 := ⟨j - 1, by omega⟩
      subst hi
      have hii : ((i + 1 : Nat) : Int) - 1 = (i : Int) := by omega
      have hiw : RowKit.wrap64 (i : Int) = (i : Int) := by unfold RowKit.wrap64; omega
      have hC0 := fun (w' : World) (hb : Below wr.heap.size wr w') => (HL.out.below hb).link (pathS [nm i] false) (pathS [nm (i + 1)] false) (nm_size i (by omega)) (nm_size (i + 1) (by omega))
      rw [one_Link HL.out.good (nm_ok i (by omega)) (nm_ok (i + 1) (by omega)) (by rw [upT_nm (by omega) (by omega)]; simp) (by rw [upT_nm (by omega) (by omega)]; simp), if_neg (by omega), upT_add] at hC0
      have HC0 := Lib.hid hC0
      have HN1 := Lib.hid (fun w' => HNM.out w' i (by omega)); have HN2 := Lib.hid (fun w' => HNM.out w' (i + 1) (by omega))
      have hcc : ((i + 1 : Nat) : Int) + 1 = ((i + 1 + 1 : Nat) : Int) := by omega
      have HCC := Lib.hid hcc
      clear hC0 hcc
      generalize hqa : pathS [nm i] false = qa at *
      generalize hqb : pathS [nm (i + 1)] false = qb at *
      clear hqa hqb
      go_wp2_with fail
      refine (HN1.out _).mono ?_
      rintro e w5 ⟨rfl, hb5⟩
      have HB5 := Lib.hid hb5
      clear hb5
      go_wp2_with fail
      refine (HN2.out _).mono ?_
      rintro e w6 ⟨rfl, hb6⟩
      have HC1 := Lib.hid (HC0.out w6 (below_call HB5.out hb6 (Nat.le_refl _)))
      clear hb6 HC0 HB5
      go_wp2_with fail
      refine HC1.out.mono ?_
      rintro e w7 ⟨rfl, hL7⟩
      rw [HCC.out] at hL7
      have HL7 := Lib.hid hL7
      clear hL7 HC1 HCC
      go_wp2_with fail
      go_roundw
      case rel => exact ⟨i + 1 + 1, by omega, by omega, by go_num, HL7.out⟩
      case measure => simp only [RowKit.intOf]; omega
    · obtain rfl : j = 100 := by omega
      have q1 : ¬ ((100 : Nat) : Int) < 100 := by omega
      have hr := HR.out
      obtain ⟨h, hh⟩ : ∃ h : Nat, h = (g + 1) % 100 := ⟨_, rfl⟩
      have h100 : h < 100 := by omega
      have hhg : h ≠ g := by omega
      have hhi : ((g : Int) + 1) % 100 = (h : Int) := by omega
      have g0 : (0 : Int) ≤ (g : Int) := by omega
      have g1 : (g : Int) < 100 := by omega
      have hC1 := fun (w' : World) (hb : Below wr.heap.size wr w') => (HL.out.below hb).link (pathS [nm 5] false) ⟨#[47, 109, 111, 114, 101]⟩ (nm_size 5 (by decide)) (by decide)
      rw [pMore, one_Link HL.out.good (nm_ok 5 (by decide)) okMore (by rw [upT_nm (by omega) (by omega)]; rfl) upT_more, if_pos (by rfl)] at hC1
      have HC1 := Lib.hid hC1
      have HN5 := Lib.hid (fun w' => HNM.out w' 5 (by omega)); have HNG := Lib.hid (fun w' => HNM.out w' g hg); have HNH := Lib.hid (fun w' => HNM.out w' h h100)
      have hzg := nm_size g hg; have hzh := nm_size h h100
      have hu : goneN (oneM (upT 100) ((100 : Nat) : Int)) (pathS [nm g] false) false = (0, oneM (subT (upT 100) (nm g)) 99) := one_Unlink (nm_ok g hg) (by rw [upT_nm (by omega) hg, decide_eq_true hg]) (by decide)
      have hl : ∀ {cap}, Good (oneM (subT (upT 100) (nm g)) 99) cap → linkN (oneM (subT (upT 100) (nm g)) 99) (pathS [nm h] false) ⟨#[47, 109, 111, 114, 101]⟩ = (0, oneM (dnT 0 g) (cntL 0 g)) := fun {cap} hgd => by
        rw [pMore, one_Link hgd (nm_ok h h100) okMore (by unfold subT; rw [upT_nm (by omega) h100, decide_eq_true h100, decide_eq_false (fun e => hhg (nm_inj h h100 g hg e))]; rfl) (by unfold subT; rw [upT_more]; rfl), if_neg (by decide), dnT_start hg]
        unfold cntL
        rw [if_pos (by omega)]
        rfl
      have HU := Lib.hid hu; have HLK := Lib.hid (@hl 6)
      have hpm : pathS [nMore] false = (⟨#[47, 109, 111, 114, 101]⟩ : ByteArray) := rfl
      rw [hpm] at HC1
      clear hC1 hu hl hh hpm
      generalize hqa : pathS [nm 5] false = qa at *
      generalize hqb : pathS [nm g] false = qb at *
      generalize hqc : pathS [nm h] false = qc at *
      clear hqa hqc
      go_wp2_with fail
      refine (HN5.out _).mono ?_
      rintro e w5 ⟨rfl, hb5⟩
      have HC2 := Lib.hid (HC1.out w5 hb5)
      clear hb5 HC1 hr
      go_wp2_with fail
      refine HC2.out.mono ?_
      rintro e w6 ⟨rfl, hL6⟩
      have HL6 := Lib.hid hL6
      clear hL6 HC2
      go_wp2_with fail
      refine (HNG.out _).mono ?_
      rintro e w7 ⟨rfl, hb7⟩
      have hC3 := (HL6.out.below hb7).unlink qb hzg
      rw [HU.out] at hC3
      have HC3 := Lib.hid hC3
      clear hb7 hC3 HL6
      go_wp2_with fail
      refine HC3.out.mono ?_
      rintro e w8 ⟨rfl, hL8⟩
      have HL8 := Lib.hid hL8
      clear hL8 HC3
      go_wp2_with fail
      refine (HNH.out _).mono ?_
      rintro e w9 ⟨rfl, hb9⟩
      have hC4 := (HL8.out.below hb9).link qc ⟨#[47, 109, 111, 114, 101]⟩ hzh (by decide)
      rw [HLK.out HL8.out.good] at hC4
      have HC4 := Lib.hid hC4
      clear hb9 hC4 HL8
      go_wp2_with fail
      refine HC4.out.mono ?_
      rintro e w10 ⟨rfl, hL10⟩
      have HL10 := Lib.hid hL10
      clear hL10 HC4
      go_wp2_with fail
      clear HN5 HNG HNH HU HLK hhg hhi HL
      go_loopw [8] (fun i wy => ∃ j : Nat, j ≤ 100 ∧ i = .int .i64 j ∧ LAt W wy tb 6 (oneM (dnT j g) (cntL j g))) (fun i _ => 100 - (RowKit.intOf i).toNat)
      case atStart => exact ⟨0, by omega, rfl, HL10.out⟩
      case round =>
        obtain ⟨j, hj100, rfl, hL⟩ := hrel
        have HL := Lib.hid hL
        clear hL HL10
        by_cases hj : j < 100
        · have q1 : (j : Int) < 100 := by omega
          have HNJ := Lib.hid (fun w' => HNM.out w' j hj)
          have hzj := nm_size j hj
          by_cases hjg : j = g
          · subst hjg
            have hu : goneN (oneM (dnT j j) (cntL j j)) (pathS [nm j] false) false = (2, oneM (dnT (j + 1) j) (cntL (j + 1) j)) := by
              rw [one_noLink HL.out.good (nm_ok j hj) (by rw [dnT_nm hj]; simp), dnT_skip]
              unfold cntL
              rw [if_pos (Nat.le_refl _), if_neg (by omega), show (101 : Int) - (j : Int) - 1 = 101 - ((j + 1 : Nat) : Int) - 0 by omega]
            have hC := fun (w' : World) (hb : Below wr.heap.size wr w') => (HL.out.below hb).unlink (pathS [nm j] false) hzj
            rw [hu] at hC
            have HC := Lib.hid hC
            clear hu hC hqb
            generalize hqa : pathS [nm j] false = qa at *
            clear hqa
            go_wp2_with fail
            refine (HNJ.out _).mono ?_
            rintro e w11 ⟨rfl, hb11⟩
            have HC1 := Lib.hid (HC.out w11 hb11)
            clear hb11 HC
            go_wp2_with fail
            refine HC1.out.mono ?_
            rintro e w12 ⟨rfl, hL12⟩
            have HL12 := Lib.hid hL12
            clear hL12 HC1
            go_wp2_with fail
            go_roundw
            case rel => exact ⟨j + 1, by omega, by go_num, HL12.out⟩
            case measure => simp only [RowKit.intOf]; omega
          · have hjg' : (j : Int) ≠ (g : Int) := by omega
            have hjb : ((j : Int) != (g : Int)) = true := by rw [bne_iff_ne]; exact hjg'
            have hu : goneN (oneM (dnT j g) (cntL j g)) (pathS [nm j] false) false = (0, oneM (dnT (j + 1) g) (cntL (j + 1) g)) := by
              have hc1 : cntL j g ≠ 1 := by unfold cntL; split <;> omega
              rw [one_Unlink (nm_ok j hj) (by rw [dnT_nm hj, decide_eq_true (Nat.le_refl j), decide_eq_false hjg]; rfl) hc1, dnT_step hj hjg]
              have : cntL j g - 1 = cntL (j + 1) g := by
                unfold cntL
                by_cases hle : j ≤ g
                · rw [if_pos hle, if_pos (by omega)]; omega
                · rw [if_neg hle, if_neg (by omega)]; omega
              rw [this]
            have hC := fun (w' : World) (hb : Below wr.heap.size wr w') => (HL.out.below hb).unlink (pathS [nm j] false) hzj
            rw [hu] at hC
            have HC := Lib.hid hC
            clear hu hC hqb
            generalize hqa : pathS [nm j] false = qa at *
            clear hqa
            go_wp2_with fail
            refine (HNJ.out _).mono ?_
            rintro e w11 ⟨rfl, hb11⟩
            have HC1 := Lib.hid (HC.out w11 hb11)
            clear hb11 HC
            go_wp2_with fail
            refine HC1.out.mono ?_
            rintro e w12 ⟨rfl, hL12⟩
            have HL12 := Lib.hid hL12
            clear hL12 HC1
            go_wp2_with fail
            go_roundw
            case rel => exact ⟨j + 1, by omega, by go_num, HL12.out⟩
            case measure => simp only [RowKit.intOf]; omega
        · obtain rfl : j = 100 := by omega
          have q1 : ¬ ((100 : Nat) : Int) < 100 := by omega
          have hm : oneM (dnT 100 g) (cntL 100 g) = oneM (fun t => decide (t = nMore)) 1 := by
            rw [dnT_end]
            unfold cntL
            rw [if_neg (by omega)]; rfl
          have hL := HL.out
          rw [hm] at hL
          have HS := Lib.hid (hL.stat ⟨#[47, 109, 111, 114, 101]⟩ (by decide))
          have hst : statN (oneM (fun t => decide (t = nMore)) 1) ⟨#[47, 109, 111, 114, 101]⟩ = ((3, 1, 1, 0), 0) := by rw [pMore]; exact one_stat okMore (by simp)
          rw [hst] at HS
          have hgo : goneN (oneM (fun t => decide (t = nMore)) 1) ⟨#[47, 109, 111, 114, 101]⟩ false = (0, newM) := by
            rw [pMore, root_gone okMore (i := 3) (by rw [one_ent]; simp) (wrong_file one_file), one_last]
          have HGO := Lib.hid hgo; have HL1 := Lib.hid hL
          have hmk : makeN newM 6 ⟨#[47, 120]⟩ false = (3, 0, oneM (fun t => decide (t = nX)) 1) := by
            rw [pX, root_make (newM_full (by decide)) okX (newM_ent _ _) (new_least (by decide)), one_new]
            rfl
          have HMK := Lib.hid hmk
          have HWK : Hid (∀ l, WalkIs (oneM (fun t => decide (t = nX)) 1) l → l = [⟨#[47, 120]⟩]) := Lib.hid fun l hl => by
            rw [pX]
            exact walk_one (i := 3) (by rw [one_ent]; simp) (fun x hx => by rw [one_ent]; simp [hx]) one_file hl
          clear hm hst hgo hmk hL HL hqb
          unfold statV statA at HS
          dsimp only at HS
          go_wp2_with fail
          refine HS.out.mono ?_
          rintro e w11 ⟨rfl, hb11⟩
          have hL11 := HL1.out.below hb11
          have hC := (hL11.below ((Below.refl _ w11).alloc (Nat.le_refl _) (.cells #[.int .i64 3, .int .i64 1, .int .i64 1, .int .i64 0] 39))).unlink ⟨#[47, 109, 111, 114, 101]⟩ (by decide)
          rw [HGO.out] at hC
          have HC := Lib.hid hC
          clear hL11 hC hb11 HS HL1
          go_wp2_with fail
          refine HC.out.mono ?_
          rintro e w12 ⟨rfl, hL12⟩
          have hC2 := hL12.create ⟨#[47, 120]⟩ (by decide)
          rw [HMK.out] at hC2
          have HC2 := Lib.hid hC2
          clear hL12 hC2 HC HMK
          go_wp2_with fail
          refine HC2.out.mono ?_
          rintro e w13 ⟨rfl, hL13⟩
          have HC3 := Lib.hid hL13.walk
          have HL13 := Lib.hid hL13
          clear hL13 HC2
          go_wp2_with fail
          refine HC3.out.mono ?_
          rintro e w14 ⟨v, l, rfl, hl, -, hst, hb14⟩
          rw [HWK.out l hl] at hst
          have hb := Lib.hid (HL13.out.below hb14).bel
          have ht := texts_any (B := w14.heap.size + 1) (w := w14.alloc (.cells #[.string ⟨#[47, 120]⟩] 9)) (u := v) ((hst.below ((Below.refl _ w14).alloc (Nat.le_refl _) _)).mono (Nat.le_succ _)) (StrsAt.built (l := [⟨#[47, 120]⟩]) _ rfl (by decide) _) (by simp) (by decide) (by decide)
          have HT := Lib.hid ht
          clear ht hst hl hb14 HC3
          go_wp2_with fail
          refine HT.out.mono ?_
          rintro e w15 ⟨rfl, hb15⟩
          have HB15 := Lib.hid (below_call (hb.out.alloc hb.out.size _) hb15 (Nat.le_refl _))
          clear hb15 HT
          go_wp2_with fail
          go_ret
          exact ⟨rfl, HB15.out⟩
end Go.Proofs.Ytoofcnehoffllaa

namespace Go.Proofs.Ytoofcnehoffllaa
open Go.RowKit

/-- A tree of a call's own: its blocks, which are there, are in F. -/
structure LFt (w0 w : World) (tb cap : Nat) (F : Nat → Prop) (M : TM) : Prop where
  at_ : TAt w tb cap F M
  good : Good M cap
  low : ∀ b, F b → w0.heap.size ≤ b
  lt : ∀ b, F b → b < w.heap.size
  bel : Below w0.heap.size w0 w
section
variable {w0 w w' : World} {tb nb cap : Nat} {P E : Nat → Option Nat} {V : Nat → Value} {M M' : TM} {F : Nat → Prop}
theorem TIn.foot_lt (h : TIn w tb nb cap P E V M) {b : Nat} (hb : TFoot tb nb P E V b) : b < w.heap.size := by
  rcases hb with h1 | h1 | ⟨i, h1⟩ | ⟨i, h1⟩ | ⟨i, h1⟩
  · rw [h1]; exact blk_lt h.top
  · obtain ⟨cs, hr, _⟩ := h.row
    rw [h1]; exact blk_lt hr
  · have hs : (M i).isSome = true := by rw [← h.dom i, h1]; rfl
    obtain ⟨nd, hm⟩ := Option.isSome_iff_exists.1 hs
    exact blk_lt (h.node i b nd h1 hm)
  · obtain ⟨es, c, hm⟩ := h.elt h1
    exact blk_lt hm
  · cases hm : M i with
    | none => rw [(h.eno i hm).2] at h1; cases h1
    | some nd => exact (World.ownsRow.lt (h.data i nd hm) b h1).2
theorem LAt.ft (h : LAt w0 w tb cap M) : ∃ F, LFt w0 w tb cap F M := by
  obtain ⟨nb, P, E, V, hT, hF⟩ := h.at_
  exact ⟨TFoot tb nb P E V, ⟨nb, P, E, V, hT, fun _ hb => hb⟩, h.good, fun b hb => hF b hb, fun b hb => hT.foot_lt hb, h.bel⟩
theorem LFt.at0 (h : LFt w0 w tb cap F M) : LAt w0 w tb cap M := by
  obtain ⟨nb, P, E, V, hT, hF⟩ := h.at_
  exact ⟨⟨nb, P, E, V, hT, fun b hb => h.low b (hF b hb)⟩, h.good, h.bel⟩
/-- Behind a call of the tree's. -/
theorem LFt.left (h : LFt w0 w tb cap F M) (hl : TLeft w w' tb cap F M') (hg : Good M' cap) : ∃ F', LFt w0 w' tb cap F' M' ∧ ∀ b, b < w.heap.size → ¬ F b → ¬ F' b := by
  obtain ⟨⟨nb, P, E, V, hT, hF⟩, hfr⟩ := hl
  have hs := h.bel.size
  refine ⟨fun b => (F b ∨ w.heap.size ≤ b) ∧ b < w'.heap.size, ⟨⟨nb, P, E, V, hT, fun b hb => ⟨hF b hb, hT.foot_lt hb⟩⟩, hg, fun b hb => hb.1.elim (h.low b) fun h1 => by omega, fun b hb => hb.2, h.bel.trans (hfr.toBelow hs h.low)⟩, fun b hb hn hf => hf.1.elim hn fun h1 => by omega⟩
/-- Behind what turns other blocks alone. -/
theorem LFt.other {S : Nat → Prop} (h : LFt w0 w tb cap F M) (hf : Fr S w w') (hs : ∀ b, S b → w0.heap.size ≤ b) (hn : ∀ b, F b → ¬ S b) : LFt w0 w' tb cap F M := by
  obtain ⟨nb, P, E, V, hT, hF⟩ := h.at_
  exact ⟨⟨nb, P, E, V, hT.fr hf fun b hb => hn b (hF b hb), hF⟩, h.good, h.low, fun b hb => Nat.lt_of_lt_of_le (h.lt b hb) hf.size, h.bel.trans (hf.toBelow h.bel.size hs)⟩
theorem LFt.below (h : LFt w0 w tb cap F M) (hb : Below w.heap.size w w') : LFt w0 w' tb cap F M := h.other (S := fun _ => False) (Fr.below hb) (fun _ h => h.elim) fun _ _ h => h
end
/-- The file 3 with a name and bytes. -/
def dataM (s : ByteArray) (D : List Int) : TM := fun x => if x = 2 then some ⟨some fun t => if t = s then some 3 else none, [], 1⟩ else if x = 3 then some ⟨none, D, 1⟩ else none
section
variable {s : ByteArray} {D : List Int}
theorem dat_root : dataM s D 2 = some ⟨some fun t => if t = s then some 3 else none, [], 1⟩ := if_pos rfl
theorem dat_three : dataM s D 3 = some ⟨none, D, 1⟩ := by unfold dataM; rw [if_neg (by decide), if_pos rfl]
theorem dat_file : isDir (dataM s D) 3 = false := by rw [isDir_of dat_three]; rfl
theorem dat_ent : entN (dataM s D) 2 s = some 3 := by rw [entN_of dat_root]; exact if_pos rfl
theorem dat_new : addM newM 3 (freshNd false) 2 s = dataM s [] := by
  funext x
  by_cases e3 : x = 3
  · rw [e3, addM_i, dat_three]; rfl
  · by_cases e2 : x = 2
    · rw [e2, addM_p (q := ⟨some fun _ => none, [], 1⟩) (by decide) rfl, dat_root]
      rfl
    · rw [addM_o e3 e2]
      unfold dataM newM
      rw [if_neg e2, if_neg e2, if_neg e3]
theorem dat_set {D' : List Int} : setN (dataM s D) 3 (lkN (dataM s D) 3) D' = dataM s D' := by
  funext x
  by_cases e3 : x = 3
  · rw [e3, setN_i dat_three, dat_three, lkN_of dat_three]
  · rw [setN_o e3]
    unfold dataM
    by_cases e2 : x = 2
    · rw [if_pos e2, if_pos e2]
    · rw [if_neg e2, if_neg e3, if_neg e2, if_neg e3]
theorem dat_look (hs : nameE s.data.toList = 0) : fileN (dataM s D) (pathS [s] false) = .inl 3 := by
  unfold fileN
  rw [root_look hs dat_ent]
  dsimp only
  rw [dat_file]; rfl
theorem dat_trunc (hs : nameE s.data.toList = 0) {k : Nat} (hk : k ≤ 38400) : truncN (dataM s D) (pathS [s] false) k = (0, dataM s (sizedN D k)) := by
  unfold truncN
  rw [dat_look hs]
  dsimp only
  rw [if_neg (by omega), if_neg (by omega), dat_set, datN_of dat_three, Int.toNat_natCast]
theorem dat_write (hs : nameE s.data.toList = 0) {k : Nat} {x : List Int} (hx : x.length ≤ 4096) (hk : k + x.length ≤ 38400) : writeN (dataM s D) (pathS [s] false) k x = (0, dataM s (if x.length = 0 then D else wrData D k x)) := by
  unfold writeN
  rw [dat_look hs]
  dsimp only
  rw [if_neg (by omega), if_neg (by omega)]
  by_cases h0 : x.length = 0
  · rw [if_pos h0, if_pos h0]
  · rw [if_neg h0, if_neg h0, dat_set, datN_of dat_three, Int.toNat_natCast]
theorem dat_read (hs : nameE s.data.toList = 0) (hD : D.length ≤ 4096) : readN (dataM s D) (pathS [s] false) 0 4096 = (D, 0) := by
  unfold readN
  rw [dat_look hs]
  dsimp only
  rw [if_neg (by omega), datN_of dat_three]
  show ((D.drop 0).take 4096, (0 : Int)) = _
  rw [List.drop_zero, List.take_of_length_le hD]
theorem dat_stat (hs : nameE s.data.toList = 0) : statN (dataM s D) (pathS [s] false) = ((3, 1, 1, (D.length : Int)), 0) := by
  unfold statN
  rw [root_look hs dat_ent]
  dsimp only
  rw [dat_file, lkN_of dat_three, datN_of dat_three]
  rfl
end
section
variable {w : World} {B g n c : Nat} {xs : List Value}
/-- A cell of a row laid anew. -/
theorem own_setAt (h : w.ownsRow B 5 1 (.slice (some ⟨g, 0, none⟩) n c) n xs) {j : Nat} (z : Int) : (w.setCell ⟨g, j, none⟩ (.int .u8 z)).ownsRow B 5 1 (.slice (some ⟨g, 0, none⟩) n c) n (xs.set j (.int .u8 z)) := by
  refine ⟨by rw [List.length_set]; exact h.1, ?_⟩
  rcases h.2 with ⟨h1, h2⟩ | ⟨g', cap, cur, h1, h2, h3, h4, h5, h6, h7⟩
  · injection h1 with e1; cases e1
  · injection h1 with e1 _ e3
    injection e1 with e1
    injection e1 with e1
    subst e1 e3
    refine .inr ⟨g, c, _, rfl, h2, blk_set h3 (.int .u8 z), h4, h5, by rw [Array.size_setIfInBounds]; exact h6, ?_⟩
    rw [Array.toList_setIfInBounds, List.take_set, h7]
theorem splice_set {L x : List Int} {p k : Nat} {z : Int} (hz : x[k]? = some z) (hp : p + x.length ≤ L.length) : (splice L p (x.take k)).set (p + k) z = splice L p (x.take (k + 1)) := by
  have hk : k < x.length := (List.getElem?_eq_some_iff.1 hz).1
  apply List.ext_getElem?
  intro j
  unfold splice
  simp only [List.getElem?_set, List.getElem?_append, List.getElem?_take, List.getElem?_drop, List.length_append, List.length_take, List.length_drop]
  grind
theorem splice_zero {L x : List Int} {p : Nat} : splice L p (x.take 0) = L := by unfold splice; simp
end
end Go.Proofs.Ytoofcnehoffllaa

namespace Go.Proofs.Ytoofcnehoffllaa
open Go.RowKit

structure WSt (W w : World) (tb : Nat) (F : Nat → Prop) (M : TM) (wv : Value) (L : List Int) : Prop where
  lft : LFt W w tb 5 F M
  own : w.ownsRow W.heap.size 5 1 wv L.length (u8s L)
  sep : ∀ b, wv.ownBlock = some b → ¬ F b
section
variable {W w w' : World} {tb : Nat} {F : Nat → Prop} {M M' : TM} {wv v : Value} {L : List Int}
theorem WSt.below (h : WSt W w tb F M wv L) (hb : Below w.heap.size w w') : WSt W w' tb F M wv L := ⟨h.lft.below hb, own_frame h.own (S := fun _ => False) (Fr.below hb) fun _ _ => id, h.sep⟩
theorem WSt.nil (h : LFt W w tb 5 F M) : WSt W w tb F M (.slice none 0 0) [] := ⟨h, ⟨rfl, .inl ⟨rfl, rfl⟩⟩, fun b hb => by cases hb⟩
/-- Behind a call of the tree's. -/
theorem WSt.left (h : WSt W w tb F M wv L) (hl : TLeft w w' tb 5 F M') (hg : Good M' 5) : ∃ F', WSt W w' tb F' M' wv L := by
  obtain ⟨F', hf, hs⟩ := h.lft.left hl hg
  exact ⟨F', hf, own_frame h.own hl.2 h.sep, fun b hb => hs b (World.ownsRow.lt h.own b hb).2 (h.sep b hb)⟩
/-- One byte more. -/
theorem WSt.push (h : WSt W w tb F M wv L) {o : Obj} {z : Int} (ho : w'.ownsRow W.heap.size 5 1 v (L.length + 1) (u8s L ++ [.int .u8 z])) (hf : Fr (fun x => wv.ownBlock = some x) (w.alloc o) w') (hv : v.ownBlock = wv.ownBlock ∨ v.ownBlock = some (w.heap.size + 1)) : WSt W w' tb F M v (L ++ [z]) := by
  have hw : Fr (fun x => wv.ownBlock = some x) w w' := ((Fr.refl _ w).alloc o).trans hf
  refine ⟨h.lft.other hw (fun b hb => (World.ownsRow.lt h.own b hb).1) (fun b hb hs => h.sep b hs hb), ?_, fun b hb hF => ?_⟩
  · rw [List.length_append, List.length_singleton, u8s_append]
    exact ho
  · rcases hv with e | e
    · exact h.sep b (by rw [← e]; exact hb) hF
    · rw [e] at hb
      injection hb with hb
      have := h.lft.lt b hF
      omega
theorem WSt.cut {a : Option Addr} {c : Nat} (h : WSt W w tb F M (.slice a L.length c) L) {k : Nat} (hk : k ≤ L.length) : WSt W w tb F M (.slice a k c) (L.take k) := by
  refine ⟨h.lft, ?_, fun b hb => h.sep b (by cases a with | none => cases hb | some ad => exact hb)⟩
  rw [List.length_take, Nat.min_eq_left hk, u8s_take]
  exact own_cut h.own hk
theorem WSt.set {g c : Nat} (h : WSt W w tb F M (.slice (some ⟨g, 0, none⟩) L.length c) L) (j : Nat) (z : Int) : WSt W (w.setCell ⟨g, j, none⟩ (.int .u8 z)) tb F M (.slice (some ⟨g, 0, none⟩) L.length c) (L.set j z) := by
  refine ⟨h.lft.other (S := fun x => x = g) ((Fr.refl (fun x => x = g) w).setCell ⟨g, j, none⟩ rfl _) (fun b hb => by rw [hb]; exact (World.ownsRow.lt h.own g rfl).1) (fun b hb e => h.sep g rfl (by rw [← e]; exact hb)), ?_, h.sep⟩
  have := own_setAt h.own (j := j) z
  rw [List.length_set]
  have e : u8s (L.set j z) = (u8s L).set j (.int .u8 z) := by unfold u8s; rw [List.map_set]
  rw [e]
  exact this
end
/-- An argument of the type []byte. -/
def ArgB (W : World) (v : Value) (ys : List Int) : Prop :=
  ∃ a c, v = .slice a ys.length c ∧ ys.length ≤ c ∧ (0 < ys.length → ∃ g o, a = some ⟨g, o, none⟩ ∧ g < W.heap.size ∧ ∀ (j : Nat) x, ys[j]? = some x → W.cell? ⟨g, o + j, none⟩ = some (.int .u8 x))
/-- An argument of the type [][2]int. -/
def ArgW (W : World) (v : Value) (xs : List (Int × Int)) : Prop :=
  ∃ a c, v = .slice a xs.length c ∧ (0 < xs.length → ∃ g o, a = some ⟨g, o, none⟩ ∧ g < W.heap.size ∧ ∀ (i : Nat) x, xs[i]? = some x → W.cell? ⟨g, o + i * 2, none⟩ = some (.int .i64 x.1) ∧ W.cell? ⟨g, o + i * 2 + 1, none⟩ = some (.int .i64 x.2))
def lenV : Value → Nat
  | .slice _ n _ => n
  | _ => 0
theorem sized_grow {D : List Int} {n : Nat} : D ++ List.replicate (n - D.length) 0 = sizedN D (max D.length n) := by
  unfold sizedN
  by_cases h : D.length ≤ n
  · rw [Nat.max_eq_right h, List.take_of_length_le (by rw [List.length_append, List.length_replicate]; omega)]
  · rw [Nat.max_eq_left (by omega), show n - D.length = 0 by omega, show D.length - D.length = 0 by omega, List.replicate_zero, List.append_nil, List.take_length]
theorem sized_cut {D : List Int} {n : Nat} : (D ++ List.replicate (n - D.length) 0).take n = sizedN D n := rfl
/-- The texts of bytes. -/
theorem strOf_same {x y : List Int} (h : x = y) : strOfNums x = strOfNums y := by rw [h]
end Go.Proofs.Ytoofcnehoffllaa
