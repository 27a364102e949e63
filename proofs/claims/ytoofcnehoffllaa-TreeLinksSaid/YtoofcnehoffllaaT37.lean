/- Walk of the statement TreeNew: it returns true. -/
import Derived.Test.YtoofcnehoffllaaT36
namespace Go.Proofs.Ytoofcnehoffllaa
open Go.RowKit

/-- An argument of the type []int. -/
def ArgI (W : World) (v : Value) (xs : List Int) : Prop :=
  ∃ a c, v = .slice a xs.length c ∧ (0 < xs.length → ∃ g o, a = some ⟨g, o, none⟩ ∧ g < W.heap.size ∧ ∀ i, i < xs.length → W.cell? ⟨g, o + i, none⟩ = some (.int .i64 (xs.getD i 0)))
theorem rest_of (x : Int) (k : Nat) (hk : 0 < k) (hk2 : k ≤ 100000) : ∃ n : Nat, n < k ∧ RowKit.wrap64 ((IntKind.u64.wrap x).tmod (k : Int)) = (n : Int) := by
  have h0 : 0 ≤ IntKind.u64.wrap x := by simp only [IntKind.wrap, IntKind.signed, IntKind.bits]; simp; omega
  have h2 := Int.emod_lt_of_pos (IntKind.u64.wrap x) (show (0 : Int) < (k : Int) by omega)
  have h3 := Int.emod_nonneg (IntKind.u64.wrap x) (show (k : Int) ≠ 0 by omega)
  refine ⟨(IntKind.u64.wrap x % (k : Int)).toNat, by omega, ?_⟩
  rw [Int.tmod_eq_emod_of_nonneg h0]
  unfold RowKit.wrap64; omega
def rng (j : Nat) : Nat → Bool := fun i => decide (3 ≤ i) && decide (i < j)
def nMore : ByteArray := ⟨#[109, 111, 114, 101]⟩
theorem okMore : nameE nMore.data.toList = 0 := by decide
theorem pMore : (⟨#[47, 109, 111, 114, 101]⟩ : ByteArray) = pathS [nMore] false := rfl
theorem more_nm (i : Nat) : nm i ≠ nMore := fun h => by
  have h2 : (nm i).data.toList.length = nMore.data.toList.length := by rw [h]
  unfold nm at h2
  rw [data_mkS] at h2
  exact absurd (show (2 : Nat) = 4 from h2) (by decide)
theorem fnd_more (S : Nat → Bool) : fnd S nMore = none := fnd_none fun i _ _ => more_nm i
section
variable {cap : Nat} {S : Nat → Bool}
theorem flat_none {i : Nat} (h2 : i ≠ 2) (h : S i = false) : flatM S i = none := by unfold flatM; rw [if_neg h2, h]; rfl
/-- A file is made. -/
theorem flat_make (h : Good (flatM S) cap) {j : Nat} (hj : j < 100) (h3 : 3 ≤ j) (hS : S j = false) (hc : j < cap) (hl : ∀ y, 3 ≤ y → y < j → S y = true) : makeN (flatM S) cap (pathS [nm j] false) false = ((j : Int), 0, flatM (addS S j)) := by
  have hle : leastN (flatM S) cap cap 2 = some j := least_eq cap 2 j (fun y h1 h2 => by
    rw [flat_some]
    by_cases e : y = 2
    · rw [decide_eq_true e]; rfl
    · rw [hl y (by omega) h2, Bool.or_true]) (by omega) hc (flat_none (by omega) hS) (by omega)
  rw [root_make h (nm_ok j hj) (by rw [flat_ent]; exact fnd_none fun i hi hs hn => by rw [nm_inj i hi j hj hn, hS] at hs; cases hs) hle, flat_add hj (by omega)]
theorem rng_succ {j : Nat} (h3 : 3 ≤ j) : addS (rng j) j = rng (j + 1) := by
  funext i
  unfold addS rng
  by_cases e : i = j
  · subst e
    rw [decide_eq_true rfl, Bool.or_true, decide_eq_true h3, decide_eq_true (by omega)]; rfl
  · rw [decide_eq_false e, Bool.or_false]
    congr 1
    rw [decide_eq_decide]; omega
theorem sub_add {k : Nat} (hk : S k = true) : addS (subS S k) k = S := by
  funext i
  unfold addS subS
  by_cases e : i = k
  · subst e; rw [decide_eq_true rfl, Bool.or_true, hk]
  · rw [decide_eq_false e]; simp
/-- A round of the law. -/
theorem flat_round {n k : Nat} (hn : n < 100) (h : Good (flatM (rng (n + 1))) (n + 1)) (hk : 3 ≤ k ∧ k ≤ n) :
    makeN (flatM (rng (n + 1))) (n + 1) ⟨#[47, 109, 111, 114, 101]⟩ true = (0, 23, flatM (rng (n + 1))) ∧
    goneN (flatM (rng (n + 1))) (pathS [nm k] false) false = (0, flatM (subS (rng (n + 1)) k)) ∧
    (Good (flatM (subS (rng (n + 1)) k)) (n + 1) → makeN (flatM (subS (rng (n + 1)) k)) (n + 1) ⟨#[47, 109, 111, 114, 101]⟩ true = ((k : Int), 0, addM (flatM (subS (rng (n + 1)) k)) k (freshNd true) 2 nMore) ∧
      goneN (addM (flatM (subS (rng (n + 1)) k)) k (freshNd true) 2 nMore) ⟨#[47, 109, 111, 114, 101]⟩ true = (0, flatM (subS (rng (n + 1)) k)) ∧
      makeN (flatM (subS (rng (n + 1)) k)) (n + 1) (pathS [nm k] false) false = ((k : Int), 0, flatM (rng (n + 1)))) := by
  have hSk : rng (n + 1) k = true := by unfold rng; simp; omega
  have hS : ∀ y, 3 ≤ y → y < n + 1 → rng (n + 1) y = true := fun y h1 h2 => by unfold rng; simp; omega
  have hk0 : subS (rng (n + 1)) k k = false := by unfold subS; simp
  have hle : leastN (flatM (subS (rng (n + 1)) k)) (n + 1) (n + 1) 2 = some k := least_eq (n + 1) 2 k (fun y h1 h2 => by
    rw [flat_some]
    by_cases e : y = 2
    · rw [decide_eq_true e]; rfl
    · rw [decide_eq_false e, Bool.false_or]
      unfold subS
      rw [hS y (by omega) (by omega), decide_eq_false (by omega)]; rfl) (by omega) (by omega) (flat_none (by omega) hk0) (by omega)
  refine ⟨?_, ?_, fun h' => ⟨?_, ?_, ?_⟩⟩
  · rw [pMore]
    exact root_full h okMore (by rw [flat_ent]; exact fnd_more _) (least_full (n + 1) 2 fun y h1 h2 => by
      rw [flat_some]
      by_cases e : y = 2
      · rw [decide_eq_true e]; rfl
      · rw [hS y (by omega) h2, Bool.or_true])
  · rw [root_gone (nm_ok k (by omega)) (by rw [flat_ent]; exact fnd_at (by omega) hSk) (wrong_file (flat_file (by omega))), flat_drop (by omega) (by omega) hSk]
  · rw [pMore]
    exact root_make h' okMore (by rw [flat_ent]; exact fnd_more _) hle
  · have hz : flatM (subS (rng (n + 1)) k) k = none := flat_none (by omega) hk0
    have hp := h'.1.ok.root
    have hs : entN (flatM (subS (rng (n + 1)) k)) 2 nMore = none := by rw [flat_ent]; exact fnd_more _
    have hd : isDir (addM (flatM (subS (rng (n + 1)) k)) k (freshNd true) 2 nMore) k = true := by rw [isDir_of addM_i]; rfl
    rw [pMore, root_gone okMore (i := k) (by rw [ent_add hp hz, putE_self]) (wrong_dir hd fun t => by rw [entN_of addM_i]; rfl), add_drop hz hp hs]
  · have := flat_make h' (j := k) (by omega) hk.1 hk0 (by omega) (fun y h1 h2 => by unfold subS; rw [hS y h1 (by omega), decide_eq_false (by omega)]; rfl)
    rw [sub_add hSk] at this
    exact this
end
set_option maxHeartbeats 4000000 in
set_option maxRecDepth 100000 in
theorem lawNew_any (a : Int) (gv : Value) (xs : List Int) (W : World) (hx : ArgI W gv xs) : Calls Try.prog 3 #[.int .i64 a, gv] W fun e w' => e = .returned (.bool true) ∧ Below W.heap.size W w' := by
  obtain ⟨m, hm, hr⟩ := rest_of a 60 (by decide) (by decide)
  have hr : RowKit.wrap64 ((IntKind.u64.wrap a).tmod 60) = (m : Int) := hr
  have hm' : (m : Int) < 60 := by omega
  have hm0 : (0 : Int) ≤ (m : Int) := by omega
  have HA := Lib.hid (awake_any W)
  have HX := Lib.hid hx
  obtain ⟨N, hN⟩ : ∃ N, N = m + 4 := ⟨_, rfl⟩
  have hNi : (m : Int) + 4 = (N : Int) := by omega
  have n4 : (4 : Int) ≤ (N : Int) := by omega
  have n6 : (N : Int) ≤ 63 := by omega
  have n4' : 4 ≤ N := by omega
  have n6' : N ≤ 63 := by omega
  obtain ⟨ga, gc, rfl⟩ : ∃ a c, gv = .slice a xs.length c := by
    obtain ⟨a, c, h, _⟩ := hx
    exact ⟨a, c, h⟩
  clear hx hN
  go_enter Try.func3, Try.ntmps3
  go_wp2_with fail
  refine HA.out.mono ?_
  rintro e w1 ⟨rfl, hb1⟩
  have HB1 := Lib.hid hb1
  have HN := Lib.hid (new_any n4' (by omega) w1)
  clear hb1 HA
  go_wp2_with fail
  refine HN.out.mono ?_
  rintro e w2 ⟨tb, nb, eb, b2, rfl, hT, h1, h2, h3, h4, hb2⟩
  have hs1 := HB1.out.size
  have L0 := LAt.new (w0 := W) n4' hT (by omega) (by omega) (by omega) (by omega) (below_call HB1.out hb2 (Nat.le_refl _))
  rw [newM_flat, show (fun _ => false) = rng 3 by funext i; unfold rng; by_cases h : 3 ≤ i <;> simp [h]] at L0
  have HL0 := Lib.hid L0
  clear HN hT h1 h2 h3 h4 hb2 hs1 L0 hr hm' hm0 hNi
  go_wp2_with fail
  go_loopw [8] (fun i wy => ∃ j : Nat, 3 ≤ j ∧ j ≤ N + 1 ∧ i = .int .i64 j ∧ LAt W wy tb (N + 1) (flatM (rng j))) (fun i _ => N + 1 - (RowKit.intOf i).toNat)
  case atStart => exact ⟨3, by omega, by omega, rfl, HL0.out⟩
  case round =>
    obtain ⟨j, hj3, hjN, rfl, hL⟩ := hrel
    have HL := Lib.hid hL
    clear hL HL0
    by_cases hj : j ≤ N
    · have q1 : (j : Int) ≤ (N : Int) := by omega
      have HNM := Lib.hid (nameNew_any wr j (by omega))
      go_wp2_with fail
      refine HNM.out.mono ?_
      rintro e w3 ⟨rfl, hb3⟩
      have hL3 := HL.out.below hb3
      have hC := hL3.create (pathS [nm j] false) (by have := (one_name (nm_ok j (by omega))).2.1; rw [List.nil_append] at this; omega)
      rw [flat_make hL3.good (by omega) hj3 (by unfold rng; simp) (by omega) (fun y h1 h2 => by unfold rng; simp; omega), rng_succ hj3] at hC
      have HC := Lib.hid hC
      clear hb3 hL3 hC HNM
      generalize pathS [nm j] false = q at *
      go_wp2_with fail
      refine HC.out.mono ?_
      rintro e w4 ⟨rfl, hL4⟩
      have HL4 := Lib.hid hL4
      clear hL4 HC
      go_wp2_with fail
      go_roundw
      case rel => exact ⟨j + 1, by omega, by omega, by go_num, HL4.out⟩
      case measure => simp only [RowKit.intOf]; omega
    · obtain rfl : j = N + 1 := by omega
      have q1 : ¬ ((N + 1 : Nat) : Int) ≤ (N : Int) := by omega
      go_wp2_with fail
      clear q1
      go_loopw [11] (fun i wy => ∃ t : Nat, t ≤ xs.length ∧ t ≤ 40 ∧ i = .int .i64 t ∧ LAt W wy tb (N + 1) (flatM (rng (N + 1)))) (fun i _ => xs.length - (RowKit.intOf i).toNat)
      case atStart => exact ⟨0, by omega, by omega, rfl, HL.out⟩
      case round =>
        obtain ⟨t, ht, ht40, rfl, hL⟩ := hrel
        have HLT := Lib.hid hL
        clear hL HL
        by_cases htl : t < xs.length ∧ t < 40
        · obtain ⟨c1, c2⟩ := htl
          have q1 : decide ((t : Int) < (xs.length : Int)) = true := dec_true (by omega)
          have q2 : decide ((t : Int) < 40) = true := dec_true (by omega)
          have q3 : (t : Int) < (xs.length : Int) := by omega
          have q4 : (0 : Int) ≤ (t : Int) := by omega
          obtain ⟨ga', gc', e1, hcell⟩ := HX.out
          injection e1 with e1 _ e3
          subst e1 e3
          obtain ⟨g, o, rfl, hg, hcell⟩ := hcell (by omega)
          have hc := (cell_below HLT.out.bel hg).trans (hcell t c1)
          generalize xs.getD t 0 = x at hc
          obtain ⟨k0, hk0, hr⟩ := rest_of x (N - 2) (by omega) (by omega)
          have hr : RowKit.wrap64 ((IntKind.u64.wrap x).tmod ((N : Int) - 2)) = (k0 : Int) := by
            rw [show (N : Int) - 2 = ((N - 2 : Nat) : Int) by omega]; exact hr
          obtain ⟨k, hk⟩ : ∃ k, k = k0 + 3 := ⟨_, rfl⟩
          have hki : (k0 : Int) + 3 = (k : Int) := by omega
          have hk1 : 3 ≤ k ∧ k ≤ N := by omega
          have hkb : (k0 : Int) ≤ 63 := by omega
          have hk00 : (0 : Int) ≤ (k0 : Int) := by omega
          have hk9 : k < 100 := by omega
          obtain ⟨r1, r2, r3⟩ := flat_round (n := N) (k := k) (by omega) HLT.out.good hk1
          have hC1 := HLT.out.mkdir ⟨#[47, 109, 111, 114, 101]⟩ (by decide)
          rw [r1] at hC1
          have HC1 := Lib.hid hC1; have R2 := Lib.hid r2; have R3 := Lib.hid r3
          have hpz : (pathS [nm k] false).size ≤ 1000000 := by have := (one_name (nm_ok k hk9)).2.1; rw [List.nil_append] at this; omega
          have HNM := Lib.hid (fun w => nameNew_any w k hk9)
          generalize hq : pathS [nm k] false = q at *
          generalize hS1 : subS (rng (N + 1)) k = S1 at *
          generalize hM2 : addM (flatM S1) k (freshNd true) 2 nMore = M2 at *
          clear hcell hk r1 r2 r3 hC1 hq hS1 hM2 hk0
          go_wp2_with fail
          refine HC1.out.mono ?_
          rintro e w3 ⟨rfl, hL3⟩
          have HL3 := Lib.hid hL3
          clear hL3 HC1 hc hr
          go_wp2_with fail
          refine (HNM.out w3).mono ?_
          rintro e w4 ⟨rfl, hb4⟩
          have hC2 := (HL3.out.below hb4).unlink q hpz
          rw [R2.out] at hC2
          have HC2 := Lib.hid hC2
          clear hb4 hC2 HL3
          go_wp2_with fail
          refine HC2.out.mono ?_
          rintro e w5 ⟨rfl, hL5⟩
          obtain ⟨s1, s2, s3⟩ := R3.out hL5.good
          have hC3 := hL5.mkdir ⟨#[47, 109, 111, 114, 101]⟩ (by decide)
          rw [s1] at hC3
          have HC3 := Lib.hid hC3; have Q2 := Lib.hid s2; have Q3 := Lib.hid s3
          clear hL5 hC3 s1 s2 s3 R3 R2 HC2
          go_wp2_with fail
          refine HC3.out.mono ?_
          rintro e w6 ⟨rfl, hL6⟩
          have hC4 := hL6.rmdir ⟨#[47, 109, 111, 114, 101]⟩ (by decide)
          rw [Q2.out] at hC4
          have HC4 := Lib.hid hC4
          clear hL6 hC4 Q2 HC3
          go_wp2_with fail
          refine HC4.out.mono ?_
          rintro e w7 ⟨rfl, hL7⟩
          have HL7 := Lib.hid hL7
          clear hL7 HC4
          go_wp2_with fail
          refine (HNM.out w7).mono ?_
          rintro e w8 ⟨rfl, hb8⟩
          have hC5 := (HL7.out.below hb8).create q hpz
          rw [Q3.out] at hC5
          have HC5 := Lib.hid hC5
          clear hb8 hC5 HL7 Q3 HNM
          go_wp2_with fail
          refine HC5.out.mono ?_
          rintro e w9 ⟨rfl, hL9⟩
          have HL9 := Lib.hid hL9
          clear hL9 HC5
          go_wp2_with fail
          go_roundw
          case rel => exact ⟨t + 1, by omega, by omega, by go_num, HL9.out⟩
          case measure => simp only [RowKit.intOf]; omega
        · have HWK := Lib.hid HLT.out.walk
          have q3 : (N : Int) - 2 = ((N - 2 : Nat) : Int) := by omega
          by_cases htl2 : t < xs.length
          · obtain rfl : t = 40 := by omega
            have q1 : decide (((40 : Nat) : Int) < (xs.length : Int)) = true := dec_true (by omega)
            have q2 : decide (((40 : Nat) : Int) < 40) = false := dec_false (by omega)
            have q4 : (40 : Int) < (xs.length : Int) := by omega
            go_wp2_with fail
            refine HWK.out.mono ?_
            rintro e w3 ⟨v, l, rfl, hl, -, hst, hb3⟩
            have hlen := flat_walk (n := N) (by omega) (fun i => by unfold rng; congr 1; rw [decide_eq_decide]; omega) hl (by omega)
            obtain ⟨a, c, rfl⟩ := hst.shape
            have HB3 := Lib.hid (HLT.out.below hb3).bel
            rw [hlen]
            clear hst hb3 hl HWK q1 q2 q4
            go_wp2_with fail
            go_ret
            exact ⟨by simp, HB3.out⟩
          · obtain rfl : t = xs.length := by omega
            have q1 : decide ((xs.length : Int) < (xs.length : Int)) = false := dec_false (by omega)
            go_wp2_with fail
            refine HWK.out.mono ?_
            rintro e w3 ⟨v, l, rfl, hl, -, hst, hb3⟩
            have hlen := flat_walk (n := N) (by omega) (fun i => by unfold rng; congr 1; rw [decide_eq_decide]; omega) hl (by omega)
            obtain ⟨a, c, rfl⟩ := hst.shape
            have HB3 := Lib.hid (HLT.out.below hb3).bel
            rw [hlen]
            clear hst hb3 hl HWK q1
            go_wp2_with fail
            go_ret
            exact ⟨by simp, HB3.out⟩
end Go.Proofs.Ytoofcnehoffllaa
