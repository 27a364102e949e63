/- Walk of name.Split: a path's pieces, whether it ends in '/', the error. -/
import Derived.Test.YtpgeldhleikcdaaN2
namespace Go.Proofs.Ytpgeldhleikcdaa
open Go.RowKit

def SplitPost (w : World) (s : ByteArray) (e : Ending) (w' : World) : Prop :=
  ∃ v, e = .returned (.tuple #[v, .bool (splitD s), .int .i64 (splitE s)]) ∧ StrsAt w'.heap.size w' v (splitN s) ∧ Below w.heap.size w w'

theorem clone_any (s : ByteArray) (hs : s.size ≤ 1000000) (w : World) :
    Calls Try.prog 23 #[.string s] w fun e w' => e = .returned (.string s) ∧ Below w.heap.size w w' := by
  have hc := fun w => Try.stringslite_Clone s w (by omega)
  go_enter Try.func23, Try.ntmps23
  go_wp2_with fail
  refine (hc _).mono ?_
  rintro e w' ⟨rfl, hb⟩
  go_wp2_with fail
  go_ret
  exact ⟨rfl, hb⟩
theorem clip_any (ad : Addr) (n c : Nat) (hc : n ≤ c) (w : World) :
    Calls Try.prog 25 #[.slice (some ad) n c] w fun e w' => e = .returned (.slice (some ad) n n) ∧ w' = w := by
  have m0 : (0 : Int) ≤ (n : Int) := by omega
  have m1 : (n : Int) ≤ (c : Int) := by omega
  have m2 : (n : Int) ≤ (n : Int) := by omega
  go_enter Try.func25, Try.ntmps25
  go_wp2_with fail
  go_ret
  exact ⟨rfl, rfl⟩
theorem pred_slash (w : World) : PredGrows Try.prog 24 #[] (fun r => r == 47) w := by
  intro W x hx hb
  have he : (#[encR x] ++ (#[] : Array Value)) = #[.int .i32 x] := by simp [encR]
  rw [he]
  have hq : ((x : Int) == 47) = (x == 47) := by rw [Bool.eq_iff_iff, beq_iff_eq, beq_iff_eq]; omega
  go_enter Try.func24, Try.ntmps24
  go_wp2_with fail
  go_ret
  exact ⟨by first | (rw [← hq]; rfl) | (show _ = Ending.returned (.bool (x == 47)); rw [← hq]; rfl), Below.refl _ _⟩

theorem prefix_slash (l : List UInt8) : Lib.hasPrefix l [47] = (l.head? == some 47) := by
  cases l with
  | nil => rfl
  | cons x r => simp [Lib.hasPrefix, List.isPrefixOf]; rw [Bool.eq_iff_iff, beq_iff_eq, beq_iff_eq]; exact eq_comm
theorem suffix_slash (l : List UInt8) : Lib.hasSuffix l [47] = (l.getLast? == some 47) := by
  unfold Lib.hasSuffix
  rw [Bool.eq_iff_iff, beq_iff_eq, List.isSuffixOf_iff_suffix]
  constructor
  · rintro ⟨t, rfl⟩; simp
  · intro h
    obtain ⟨t, rfl⟩ := List.getLast?_eq_some_iff.1 h
    exact ⟨t, rfl⟩

theorem extract_size_le (s : ByteArray) (a b : Nat) : (s.extract a b).size ≤ s.size := by
  rw [ByteArray.size_extract]; omega
theorem splitL_size (s x : ByteArray) (h : x ∈ splitL s) : x.size ≤ s.size := by
  rw [← goFields_slash] at h
  unfold Lib.goFieldsP at h
  obtain ⟨p, _, rfl⟩ := List.mem_map.1 h
  exact extract_size_le _ _ _
theorem fieldsB_count : ∀ (r cur : List UInt8), (fieldsB cur r).length ≤ r.length + 1
  | [], cur => by rw [fieldsB_last]; split <;> simp
  | x :: r, cur => by
    rw [fieldsB]
    have h1 := fieldsB_count r []
    have h2 := fieldsB_count r (cur ++ [x])
    split
    · split <;> simp <;> omega
    · simp; omega
theorem splitL_count (s : ByteArray) : (splitL s).length ≤ s.size + 1 := by
  unfold splitL
  rw [List.length_map, Lib.size_eq]
  exact fieldsB_count _ _

set_option maxHeartbeats 1000000 in
theorem split_any (s : ByteArray) (hs : s.size ≤ 1000000) (w : World) : Calls Try.prog 13 #[.string s] w (SplitPost w s) := by
  by_cases hbig : 255 < s.size
  · have hE : splitE s = 36 := if_pos hbig
    have hN : splitN s = [] := by unfold splitN; rw [hE]; rfl
    have hD : splitD s = false := by unfold splitD; rw [hE]; rfl
    unfold SplitPost
    rw [hE, hN, hD]
    clear hE hN hD
    go_enter Try.func13, Try.ntmps13
    go_wp2_with fail
    go_ret3
    exact ⟨_, rfl, .nil, Below.refl _ _⟩
  · have hp := fun w => Try.strings_HasPrefix s ⟨#[47]⟩ w
    have hpe : Lib.hasPrefix s.data.toList (ByteArray.mk #[47]).data.toList = (s.data.toList.head? == some 47) := prefix_slash _
    rw [hpe] at hp
    clear hpe
    by_cases hh : s.data.toList.head? = some 47
    · have hh' : (s.data.toList.head? == some 47) = true := by rw [hh]; rfl
      rw [hh'] at hp
      have hE : splitE s = firstE (splitL s) := by unfold splitE; rw [if_neg hbig, if_pos hh]
      have hf := fun w => Try.strings_FieldsFunc_grows 24 #[] (enters_of Try.func24 (by kernel_rfl) rfl) (fun r => r == 47) s w (by omega) (pred_slash w)
      rw [goFields_slash] at hf
      have hsz : ∀ x ∈ splitL s, x.size ≤ 140737488355328 := fun x hx => by have := splitL_size s x hx; omega
      have hct := splitL_count s
      have hl : (splitL s).length ≤ 1000 := by omega
      have hsf := fun w => Try.strings_HasSuffix s ⟨#[47]⟩ w (by omega)
      have hse : Lib.hasSuffix s.data.toList (ByteArray.mk #[47]).data.toList = (s.data.toList.getLast? == some 47) := suffix_slash _
      rw [hse] at hsf
      clear hse
      have hD : ∀ c, splitE s = c → splitD s = (decide (c = 0) && (s.data.toList.getLast? == some 47)) := fun c hc => by unfold splitD; rw [hc]
      have hN : ∀ c, splitE s = c → splitN s = if c = 0 then splitL s else [] := fun c hc => by unfold splitN; rw [hc]
      have HD := Lib.hid hD; have HN := Lib.hid hN; have HE := Lib.hid hE; have HSZ := Lib.hid hsz
      have HSF := Lib.hid hsf; have HP := Lib.hid hp; have HF := Lib.hid hf
      generalize (s.data.toList.getLast? == some 47) = dd at *
      clear hD hN hE hsz hh hh' hsf hp hf hct
      generalize splitL s = L at *
      go_enter Try.func13, Try.ntmps13
      go_wp2_with fail
      refine (HP.out _).mono ?_
      rintro e w1 ⟨rfl, hw⟩
      obtain rfl := hw.symm
      go_wp2_with fail
      refine (clone_any s hs _).mono ?_
      rintro e w2 ⟨rfl, hb2⟩
      go_wp2_with fail
      refine (HF.out _).mono ?_
      rintro e w3 ⟨A, rfl, hA, hown, hb3⟩
      have hb3' := below_call hb2 hb3 (Nat.le_refl _)
      have hst := StrsAt.own hown
      go_wp2_with fail
      refine (first_any hst (Nat.le_refl _) HSZ.out (by omega)).mono ?_
      rintro e w4 ⟨rfl, hb4⟩
      have hb4' := below_call hb3' hb4 (Nat.le_refl _)
      have hst4 := (hst.below hb4).mono hb4.size
      clear hst hown hb3 hb2 hb3' hb4 hA
      by_cases h0 : firstE L = 0
      · have hE0 := HE.out.trans h0
        rw [h0]
        clear h0
        go_wp2_with fail
        refine (clip_any ⟨A, 0, none⟩ L.length L.length (Nat.le_refl _) _).mono ?_
        rintro e w5 ⟨rfl, hw⟩
        obtain rfl := hw.symm
        have HE0 := Lib.hid hE0; clear hE0
        go_wp2_with fail
        refine (HSF.out _).mono ?_
        rintro e w6 ⟨rfl, hw⟩
        obtain rfl := hw.symm
        go_wp2_with fail
        go_ret3
        refine ⟨.slice (some ⟨A, 0, none⟩) L.length L.length, ?_, ?_, hb4'⟩
        · rw [HD.out 0 HE0.out, HE0.out]; rfl
        · rw [HN.out 0 HE0.out, if_pos rfl]; exact hst4
      · have h1 : (firstE L == 0) = false := by simpa using h0
        have hE1 := HE.out
        have hN1 := HN.out _ hE1
        rw [if_neg h0] at hN1
        have hD1 := HD.out _ hE1
        rw [decide_eq_false h0, Bool.false_and] at hD1
        have HE1 := Lib.hid hE1; have HN1 := Lib.hid hN1; have HD1 := Lib.hid hD1
        clear hE1 hN1 hD1 HE HN HD h0 hst4
        generalize firstE L = q at *
        go_wp2_with fail
        go_ret3
        refine ⟨.slice none 0 0, ?_, ?_, hb4'⟩
        · rw [HE1.out, HD1.out]; rfl
        · rw [HN1.out]; exact .nil
    · have hh' : (s.data.toList.head? == some 47) = false := by simpa using hh
      rw [hh'] at hp
      have hE : splitE s = 22 := by unfold splitE; rw [if_neg hbig, if_neg hh]
      have hN : splitN s = [] := by unfold splitN; rw [hE]; rfl
      have hD : splitD s = false := by unfold splitD; rw [hE]; rfl
      unfold SplitPost
      rw [hE, hN, hD]
      clear hE hN hD hh hh'
      go_enter Try.func13, Try.ntmps13
      go_wp2_with fail
      refine (hp _).mono ?_
      rintro e w1 ⟨rfl, hw⟩
      obtain rfl := hw.symm
      go_wp2_with fail
      go_ret3
      exact ⟨_, rfl, .nil, Below.refl _ _⟩
end Go.Proofs.Ytpgeldhleikcdaa
