/- Walk of deep. -/
import Derived.Test.YtoofcnehoffllaaT23
import Derived.Test.YtoofcnehoffllaaRange
namespace Go.Proofs.Ytoofcnehoffllaa
open Go.RowKit

section
variable {tb nb cap : Nat} {P E : Nat → Option Nat} {V : Nat → Value} {M : TM}
theorem goE_cons {e : EM} {i : Nat} {s : ByteArray} {l : List ByteArray} : goE e i (s :: l) = (e i s).bind fun j => goE e j l := rfl
/-- What the longest path below a node has more, as far as it is seen. -/
structure DeepSt (M : TM) (i : Nat) (ds : List ByteArray) (m : Int) : Prop where
  lo : 1 ≤ m ∧ m ≤ 255
  hit : ∃ l j, goE (entN M) i l = some j ∧ m = longN l + dirB M j
  all : ∀ s ∈ ds, ∀ l j, goE (entN M) i (s :: l) = some j → longN (s :: l) + dirB M j ≤ m
theorem DeepSt.start {i : Nat} (hd : isDir M i = true) : DeepSt M i [] 1 := ⟨by decide, ⟨[], i, rfl, by unfold dirB; rw [hd]; decide⟩, fun s hs => by cases hs⟩
theorem DeepSt.step {lp : List ByteArray} {i j : Nat} {s : ByteArray} {ds : List ByteArray} {m D : Int} (h : DeepSt M i ds m) (hS : TS M) (hl : goE (entN M) 2 lp = some i) (hs : entN M i s = some j) (hD : DeepIs M j D) : DeepSt M i (ds ++ [s]) (max m (1 + (s.size : Int) + D)) := by
  obtain ⟨⟨l, k, h1, h2⟩, h3⟩ := hD
  have hg : goE (entN M) i (s :: l) = some k := by rw [goE_cons, hs]; exact h1
  have hlo := h.lo
  refine ⟨⟨by omega, ?_⟩, ?_, fun t ht l' j' hg' => ?_⟩
  · have h4 : goE (entN M) 2 (lp ++ (s :: l)) = some k := by rw [goE_append, hl]; exact hg
    have := hS.short (lp ++ (s :: l)) k (by simp) h4
    rw [longN_append, longN_cons] at this
    have := longN_len lp
    omega
  · by_cases hm : 1 + (s.size : Int) + D ≤ m
    · rw [Int.max_eq_left hm]; exact h.hit
    · rw [Int.max_eq_right (by omega)]
      exact ⟨s :: l, k, hg, by rw [longN_cons]; omega⟩
  · rcases List.mem_append.1 ht with ht | ht
    · have := h.all t ht l' j' hg'
      omega
    · rw [List.mem_singleton] at ht
      subst ht
      rw [goE_cons, hs] at hg'
      have := h3 l' j' hg'
      rw [longN_cons]
      omega
theorem DeepSt.done {i : Nat} {ds : List ByteArray} {m : Int} (h : DeepSt M i ds m) (hall : ∀ s, (entN M i s).isSome = true → s ∈ ds) : DeepIs M i m := by
  refine ⟨h.hit, fun l j hg => ?_⟩
  cases l with
  | nil =>
    have := dirB_bd M j
    have := h.lo.1
    simp only [longN, List.map_nil, List.sum_nil]
    omega
  | cons s l =>
    refine h.all s (hall s ?_) l j hg
    rw [goE_cons] at hg
    cases he : entN M i s with
    | none => rw [he] at hg; cases hg
    | some k => rfl
theorem DeepIs.file {i : Nat} (hd : isDir M i = false) : DeepIs M i 0 := by
  refine ⟨⟨[], i, rfl, by unfold dirB; rw [hd]; decide⟩, fun l j hg => ?_⟩
  cases l with
  | nil => injection hg with hg; subst hg; unfold dirB; rw [hd]; decide
  | cons s l =>
    rw [goE_cons] at hg
    cases he : entN M i s with
    | none => rw [he] at hg; cases hg
    | some k => rw [ent_dir he] at hd; cases hd
theorem DeepIs.bd {lp : List ByteArray} {i : Nat} {D : Int} (h : DeepIs M i D) (hS : TS M) (hl : goE (entN M) 2 lp = some i) : 0 ≤ D ∧ D ≤ 256 := by
  obtain ⟨⟨l, j, h1, h2⟩, _⟩ := h
  have hb := dirB_bd M j
  have hn := longN_len l
  have h4 : goE (entN M) 2 (lp ++ l) = some j := by rw [goE_append, hl]; exact h1
  have := (hS.len h4).1
  rw [longN_append] at this
  have := longN_len lp
  omega
set_option maxHeartbeats 4000000 in
set_option maxRecDepth 100000 in
theorem deep_any (hG : TG M cap) (hS : TS M) : ∀ (fuel : Nat) (lp : List ByteArray) (i : Nat) (w : World), goE (entN M) 2 lp = some i → 256 ≤ fuel + lp.length → TIn w tb nb cap P E V M →
    Calls Try.prog 43 #[nptr (P i)] w fun e w' => ∃ D, e = .returned (.int .i64 D) ∧ DeepIs M i D ∧ Below w.heap.size w w' := by
  intro fuel
  induction fuel with
  | zero =>
    intro lp i w hl hf
    have := (hS.len hl).2
    omega
  | succ fuel ih =>
    intro lp i w hl hf h
    have hi : (M i).isSome = true := by
      rcases snoc_cases lp with rfl | ⟨r, s, rfl⟩
      · injection hl with hl; subst hl; exact hG.ok.root_there
      · obtain ⟨p, _, hp⟩ := goE_snoc.1 hl
        exact hG.ok.ent p s i hp
    have HD := Lib.hid (dir_any h hi)
    obtain ⟨nd, hm⟩ := Option.isSome_iff_exists.1 hi
    obtain ⟨b, hp, hb⟩ := h.at_ hm
    have c1 := cell_blk_some hb (i := 1) rfl
    rw [hp] at HD ⊢
    unfold nptr at *
    cases hdi : isDir M i with
    | false =>
      have HR := Lib.hid (DeepIs.file hdi)
      rw [hdi] at HD
      clear h hi hm hp hb hdi ih
      go_enter Try.func43, Try.ntmps43
      go_wp2_with fail
      refine HD.out.mono ?_
      rintro e w1 ⟨rfl, rfl⟩
      go_wp2_with fail
      go_ret
      exact ⟨0, rfl, HR.out, Below.refl _ _⟩
    | true =>
      have hE : ∃ eb f, E i = some eb ∧ nd.ents = some f ∧ MapIs Value.string w eb (entF P f) := by
        have := h.ents i nd hm
        have hdi' := hdi
        unfold isDir at hdi'
        rw [hm] at hdi'
        have hdi' : nd.ents.isSome = true := hdi'
        cases hn : nd.ents with
        | none => rw [hn] at hdi'; cases hdi'
        | some f =>
          rw [hn] at this
          obtain ⟨eb, h1, h2⟩ := this
          exact ⟨eb, f, h1, rfl, h2⟩
      obtain ⟨eb, f, hE, hf2, hMp⟩ := hE
      have hef := ent_fun hm hf2
      obtain ⟨ob, n0, hrange, hrg⟩ := RngAt.start hMp klS (t := 65) (P := Try.prog) (K := 9) (e := 64) Try.underlying65
      rw [hE] at c1
      rw [hdi] at HD
      have hbw : Below w.heap.size w (w.alloc ob) := (Below.refl _ w).alloc (Nat.le_refl _) _
      have HL := Lib.hid hl; have HFU := Lib.hid hf; have HT := Lib.hid h; have IH := Lib.hid ih; have HEF := Lib.hid hef; have HRG := Lib.hid hrg; have HBW := Lib.hid hbw; have HDI := Lib.hid hdi; have HGS := Lib.hid hG; have HSS := Lib.hid hS
      clear h hi hm hp hb hdi ih hl hf hE hf2 hMp hef hrg hbw hG hS
      go_enter Try.func43, Try.ntmps43
      go_wp2_with fail
      refine HD.out.mono ?_
      rintro e w1 ⟨rfl, hw1⟩
      obtain rfl := hw1.symm
      clear HD
      go_wp2_with fail
      clear hrange c1
      generalize hwa : w.alloc ob = wa at *
      generalize hri : w.heap.size = ri at *
      have HRI := Lib.hid hri
      clear hwa hri
      go_loopw [3] (fun most wy => ∃ ds n m, most = .int .i64 m ∧ RngAt Value.string wy ri eb (entF P f) ds n ∧ Below ri w wy ∧ DeepSt M i ds m) (fun _ wy => rngLeft wy ri eb)
      case atStart => exact ⟨[], n0, 1, rfl, HRG.out, HBW.out, .start HDI.out⟩
      case round =>
        obtain ⟨ds, n, m, rfl, hrg, hbw, hst⟩ := hrel
        have HLEFT := Lib.hid hrg.left
        have HST := Lib.hid hst; have HBY := Lib.hid hbw
        rcases hrg.next klS (P := Try.prog) 0 with ⟨-, hall, hrun⟩ | ⟨s, v, wN, n', hs, hsd, hlt, hrgN, hfN, hrun, hent⟩
        · have HAL := Lib.hid hall
          clear hrg hall hst hbw HRG HBW
          go_wp2_with fail
          go_ret
          refine ⟨m, rfl, HST.out.done fun s hs => (HAL.out s).1 ?_, by rw [HRI.out]; exact HBY.out⟩
          rw [HEF.out] at hs
          unfold entF
          cases he : f s with
          | none => rw [he] at hs; cases hs
          | some j => rfl
        · obtain ⟨j, hj, rfl⟩ : ∃ j, f s = some j ∧ nptr (P j) = v := by
            unfold entF at hs
            cases he : f s with
            | none => rw [he] at hs; cases hs
            | some j => rw [he] at hs; injection hs with hs; exact ⟨j, rfl, hs⟩
          have hen : entN M i s = some j := by rw [HEF.out]; exact hj
          have hbN : Below ri w wN := HBY.out.trans (hfN.toBelow (by have := hrg.lt.1; omega) fun x hx => by omega)
          have hgj : goE (entN M) 2 (lp ++ [s]) = some j := goE_snoc.2 ⟨i, HL.out, hen⟩
          have HC := Lib.hid (IH.out (lp ++ [s]) j wN hgj (by have := HFU.out; rw [List.length_append, List.length_singleton]; omega) (HT.out.below (by rw [HRI.out]; exact hbN)))
          have HGJ := Lib.hid hgj; have HEN := Lib.hid hen
          obtain ⟨ndj, hmj⟩ := Option.isSome_iff_exists.1 (HGS.out.ok.ent i s j hen)
          obtain ⟨bj, hpj, _⟩ := HT.out.at_ hmj
          have hsz := (nameE_len (HSS.out.nam i s j hen)).1
          have hss := Lib.size_eq s
          have s1 : (s.size : Int) ≤ 14 := by omega
          have hlo := hst.lo
          obtain ⟨m1, m2⟩ := hlo
          rw [hpj] at HC hrun hent
          unfold nptr at hrun hent
          rw [Option.map_some] at HC hrun hent
          have HRN := Lib.hid hrgN; have HBN := Lib.hid hbN; have HLT := Lib.hid hlt
          clear hrg hst hbw HRG HBW hs hsd hlt hrgN hfN hj hen hbN hgj hmj hpj hsz hss IH
          go_wp2_with fail
          refine HC.out.mono ?_
          rintro e w2 ⟨D, rfl, hD, hb2⟩
          obtain ⟨d1, d2⟩ := hD.bd HSS.out HGJ.out
          have hr2 := HRN.out.below hb2
          have hb02 : Below ri w w2 := below_call HBN.out hb2 (by rw [HRI.out]; exact Nat.le_refl _)
          have hst2 := HST.out.step HSS.out HL.out HEN.out hD
          have HR2 := Lib.hid hr2; have HB2 := Lib.hid hb02; have HST2 := Lib.hid hst2
          clear hb2 hr2 hb02 hst2 hD HC HRN HBN hrun hent
          go_wp2_with fail
          go_roundw
          case rel => exact ⟨_, _, _, rfl, HR2.out, HB2.out, HST2.out⟩
          case measure => rw [HLEFT.out, HR2.out.left]; exact HLT.out
end
end Go.Proofs.Ytoofcnehoffllaa
