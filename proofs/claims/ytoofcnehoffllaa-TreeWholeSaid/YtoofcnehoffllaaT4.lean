/- Walks of tree's look, file. -/
import Derived.Test.YtoofcnehoffllaaT3
namespace Go.Proofs.Ytoofcnehoffllaa
open Go.RowKit

section
variable {w : World} {tb nb cap : Nat} {P E : Nat → Option Nat} {V : Nat → Value} {M : TM}
theorem look_there (h : TIn w tb nb cap P E V M) {l : List ByteArray} {i : Nat} (hl : leadN M 2 l = .inl i) : (M i).isSome = true := lead_there h.ok l 2 i h.ok.root_there hl
set_option maxHeartbeats 2000000 in
set_option maxRecDepth 100000 in
theorem look_any (h : TIn w tb nb cap P E V M) (s : ByteArray) (hs : s.size ≤ 1000000) :
    Calls Try.prog 36 #[.pointer (some ⟨tb, 0, none⟩), .string s] w fun e w' => e = .returned (leadV P (lookN M s)) ∧ Below w.heap.size w w' := by
  have HT := Lib.hid h
  have HS := Lib.hid (split_any s hs w)
  have hct := splitN_count s
  have HCT := Lib.hid hct
  have hlk : lookN M s = if splitE s ≠ 0 then .inr (splitE s) else match leadN M 2 (splitN s) with
    | .inr e => .inr e
    | .inl i => if splitD s && !isDir M i then .inr 20 else .inl i := rfl
  have HLK := Lib.hid hlk
  clear h hs hct hlk
  by_cases hE : splitE s = 0
  · unfold SplitPost at HS
    have HE := Lib.hid hE
    rw [hE] at HS
    clear hE
    go_enter Try.func36, Try.ntmps36
    go_wp2_with fail
    refine HS.out.mono ?_
    rintro e w1 ⟨v, rfl, hst, hb1⟩
    have HL := Lib.hid (lead_any (HT.out.below hb1) hst HCT.out)
    have H1 := Lib.hid (HT.out.below hb1); have HB1 := Lib.hid hb1
    clear hst hb1 HS
    go_wp2_with fail
    refine HL.out.mono ?_
    rintro e w2 ⟨rfl, rfl⟩
    cases hq : leadN M 2 (splitN s) with
    | inr c =>
      have hr : lookN M s = .inr c := by rw [HLK.out, if_neg (by rw [HE.out]; simp), hq]
      have hc : c ≠ 0 := lead_code hq
      have HR := Lib.hid hr
      have c1 : (c == 0) = false := by simp [hc]
      clear hr hc HLK HL
      generalize splitD s = dd
      unfold leadV
      cases dd
      all_goals
        go_wp2_with fail
        go_ret2
        exact ⟨by rw [HR.out]; rfl, HB1.out⟩
    | inl i =>
      have hi := look_there H1.out hq
      have HD := Lib.hid (dir_any H1.out hi)
      have hr : lookN M s = if splitD s && !isDir M i then .inr 20 else .inl i := by rw [HLK.out, if_neg (by rw [HE.out]; simp), hq]
      obtain ⟨ndi, hmi⟩ := Option.isSome_iff_exists.1 hi
      obtain ⟨bi, hpi, _⟩ := H1.out.at_ hmi
      rw [hpi] at HD
      have HV : Hid (∀ r, r = .inl i → leadV P r = .tuple #[.pointer (some ⟨bi, 0, none⟩), .int .i64 0]) := Lib.hid fun r hr => by rw [hr]; show Value.tuple #[nptr (P i), _] = _; rw [hpi]; rfl
      rw [HV.out _ rfl]
      have HR := Lib.hid hr
      clear hr HLK HL hmi hpi
      generalize splitD s = dd at *
      generalize isDir M i = di at *
      unfold nptr at HD
      cases dd
      · have HR2 : Hid (leadV P (lookN M s) = .tuple #[.pointer (some ⟨bi, 0, none⟩), .int .i64 0]) := Lib.hid (HV.out _ (by rw [HR.out]; rfl))
        clear HR HV
        go_wp2_with fail
        go_ret2
        exact ⟨by rw [HR2.out]; rfl, HB1.out⟩
      · cases di
        · have HR2 : Hid (lookN M s = .inr 20) := Lib.hid (by rw [HR.out]; rfl)
          clear HR HV
          go_wp2_with fail
          refine HD.out.mono ?_
          rintro e w3 ⟨rfl, rfl⟩
          go_wp2_with fail
          go_ret2
          exact ⟨by rw [HR2.out]; rfl, HB1.out⟩
        · have HR2 : Hid (leadV P (lookN M s) = .tuple #[.pointer (some ⟨bi, 0, none⟩), .int .i64 0]) := Lib.hid (HV.out _ (by rw [HR.out]; rfl))
          clear HR HV
          go_wp2_with fail
          refine HD.out.mono ?_
          rintro e w3 ⟨rfl, rfl⟩
          go_wp2_with fail
          go_ret2
          exact ⟨by rw [HR2.out]; rfl, HB1.out⟩
  · have hr : lookN M s = .inr (splitE s) := by rw [HLK.out, if_pos hE]
    have HR := Lib.hid hr
    unfold SplitPost at HS
    generalize splitE s = ec at *
    have c1 : (ec != 0) = true := by simp [hE]
    clear hr HLK hE
    go_enter Try.func36, Try.ntmps36
    go_wp2_with fail
    refine HS.out.mono ?_
    rintro e w1 ⟨v, rfl, hst, hb1⟩
    have HB1 := Lib.hid hb1
    clear hst hb1 HS
    go_wp2_with fail
    go_ret2
    exact ⟨by rw [HR.out]; rfl, HB1.out⟩
end
end Go.Proofs.Ytoofcnehoffllaa
