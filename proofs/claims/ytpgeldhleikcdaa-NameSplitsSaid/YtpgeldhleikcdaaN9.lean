/- Walk of the statement NameSplits of chapter 8: it returns true. -/
import Derived.Test.YtpgeldhleikcdaaN8
namespace Go.Proofs.Ytpgeldhleikcdaa
open Go.RowKit

set_option maxHeartbeats 2000000 in
theorem lawSplits_any (s : ByteArray) (w : World) : Calls Try.prog 6 #[.string s] w fun e w' => e = .returned (.bool true) ∧ Below w.heap.size w w' := by
  by_cases hbig : 2000 < s.size
  · have q : decide ((2000 : Int) < (s.size : Int)) = true := dec_true (by omega)
    go_enter Try.func6, Try.ntmps6
    go_wp2_with fail
    refine (awake_any _).mono ?_
    rintro e w1 ⟨rfl, hb1⟩
    go_wp2_with fail
    refine (awake_any _).mono ?_
    rintro e w2 ⟨rfl, hb2⟩
    have hb := below_call hb1 hb2 (Nat.le_refl _)
    go_wp2_with fail
    go_ret
    exact ⟨rfl, hb⟩
  · have q : decide ((2000 : Int) < (s.size : Int)) = false := dec_false (by omega)
    have s1 := fun w => split_any s (by omega) w
    have s2 := fun w => refSplit_any s (by omega) w
    have p1 := fun w => parent_any s (by omega) w
    have p2 := fun w => refParent_any s (by omega) w
    unfold SplitPost at s1 s2
    unfold ParPost at p1 p2
    have hc1 := splitN_count s
    have hc2 : (parN s).length ≤ 1000 := by
      unfold parN; split
      · rw [List.length_take]; omega
      · simp
    have S1 := Lib.hid s1; have S2 := Lib.hid s2; have P1 := Lib.hid p1; have P2 := Lib.hid p2
    clear s1 s2 p1 p2
    generalize splitE s = ec at *
    generalize splitN s = L at *
    generalize splitD s = dd at *
    generalize parE s = pc at *
    generalize parN s = M at *
    generalize parL s = x at *
    have q1 : (ec != ec) = false := by simp
    have q2 : (dd != dd) = false := by simp
    have q3 : (pc == pc) = true := by simp
    have q4 : (x.toList == x.toList) = true := by simp
    go_enter Try.func6, Try.ntmps6
    go_wp2_with fail
    refine (awake_any _).mono ?_
    rintro e w1 ⟨rfl, hb1⟩
    go_wp2_with fail
    refine (S1.out _).mono ?_
    rintro e w2 ⟨v2, rfl, hv2, hb2⟩
    have hbel2 := below_call hb1 hb2 (Nat.le_refl _)
    clear hb1 hb2
    go_wp2_with fail
    refine (S2.out _).mono ?_
    rintro e w3 ⟨v3, rfl, hv3, hb3⟩
    have hv2' := (hv2.below hb3).mono hb3.size
    have hbel3 := below_call hbel2 hb3 (Nat.le_refl _)
    have HT := Lib.hid (texts_same hv2' hv3 (Nat.le_refl _) hc1)
    clear hb3 hbel2 hv2 hv2' hv3
    go_wp2_with fail
    refine HT.out.mono ?_
    rintro e w4 ⟨rfl, hb4⟩
    have hbel4 := below_call hbel3 hb4 (Nat.le_refl _)
    clear hb4 hbel3
    go_wp2_with fail
    refine (P1.out _).mono ?_
    rintro e w5 ⟨v5, rfl, hv5, hb5⟩
    have hbel5 := below_call hbel4 hb5 (Nat.le_refl _)
    clear hb5 hbel4
    go_wp2_with fail
    refine (P2.out _).mono ?_
    rintro e w6 ⟨v6, rfl, hv6, hb6⟩
    have hv5' := (hv5.below hb6).mono hb6.size
    have hbel6 := below_call hbel5 hb6 (Nat.le_refl _)
    have HT2 := Lib.hid (texts_same hv5' hv6 (Nat.le_refl _) hc2)
    clear hb6 hbel5 hv5 hv5' hv6
    go_wp2_with fail
    refine HT2.out.mono ?_
    rintro e w7 ⟨rfl, hb7⟩
    have hbel7 := below_call hbel6 hb7 (Nat.le_refl _)
    clear hb7 hbel6
    go_wp2_with fail
    go_ret
    exact ⟨rfl, hbel7⟩
end Go.Proofs.Ytpgeldhleikcdaa
