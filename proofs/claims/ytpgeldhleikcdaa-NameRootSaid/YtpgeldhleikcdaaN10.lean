/- Walk of the statement NameRoot of chapter 8: it returns true. -/
import Derived.Test.YtpgeldhleikcdaaN8
namespace Go.Proofs.Ytpgeldhleikcdaa
open Go.RowKit

def slashes (m : Nat) : ByteArray := mkS (List.replicate m 47)
theorem slashes_size (m : Nat) : (slashes m).size = m := by rw [Lib.size_eq, slashes, data_mkS, List.length_replicate]
theorem fieldsB_slashes : ∀ m, fieldsB [] (List.replicate m 47) = []
  | 0 => rfl
  | m + 1 => by rw [List.replicate_succ, fieldsB_slash, if_pos rfl]; exact fieldsB_slashes m
theorem slashes_succ (m : Nat) : slashes m ++ ⟨#[47]⟩ = slashes (m + 1) := by
  have h : (slashes m ++ ⟨#[47]⟩).data.toList = List.replicate (m + 1) 47 := by
    rw [ByteArray.data_append, Array.toList_append, slashes, data_mkS, List.replicate_succ']
  rw [← mkS_data (slashes m ++ ⟨#[47]⟩), h]; rfl
theorem root_E (m : Nat) (hm : 0 < m) : splitE (slashes m) = if 255 < m then 36 else 0 := by
  unfold splitE
  rw [slashes_size]
  obtain ⟨k, rfl⟩ : ∃ k, m = k + 1 := ⟨m - 1, by omega⟩
  have h1 : (slashes (k + 1)).data.toList = List.replicate (k + 1) 47 := data_mkS _
  have h2 : splitL (slashes (k + 1)) = [] := by unfold splitL; rw [h1, fieldsB_slashes]; rfl
  rw [h1, h2, List.replicate_succ, List.head?_cons, if_pos rfl]; rfl
theorem root_N (m : Nat) : splitN (slashes m) = [] := by
  have h1 : (slashes m).data.toList = List.replicate m 47 := data_mkS _
  have h2 : splitL (slashes m) = [] := by unfold splitL; rw [h1, fieldsB_slashes]; rfl
  unfold splitN; rw [h2]; split <;> rfl
theorem root_D (m : Nat) (hm : 0 < m) (h : ¬ 255 < m) : splitD (slashes m) = true := by
  unfold splitD
  rw [root_E m hm, if_neg h]
  have h1 : (slashes m).data.toList = List.replicate m 47 := data_mkS _
  obtain ⟨k, rfl⟩ : ∃ k, m = k + 1 := ⟨m - 1, by omega⟩
  rw [h1, List.replicate_succ', List.getLast?_append]; rfl

set_option maxHeartbeats 2000000 in
theorem lawRoot_any (n : Int) (w : World) : Calls Try.prog 7 #[.int .i64 n] w fun e w' => e = .returned (.bool true) ∧ Below w.heap.size w w' := by
  go_enter Try.func7, Try.ntmps7
  go_wp2_with fail
  refine (awake_any _).mono ?_
  rintro e w1 ⟨rfl, hb1⟩
  go_wp2_with fail
  obtain ⟨m, hm0, hm1, hmw⟩ : ∃ m : Nat, 0 < m ∧ m ≤ 300 ∧ RowKit.wrap64 (RowKit.wrap64 ((IntKind.u64.wrap n).tmod 300) + 1) = (m : Int) := by
    have h0 : 0 ≤ IntKind.u64.wrap n := by simp only [IntKind.wrap, IntKind.signed, IntKind.bits]; simp; omega
    refine ⟨(IntKind.u64.wrap n % 300).toNat + 1, by omega, by omega, ?_⟩
    rw [Int.tmod_eq_emod_of_nonneg h0]
    unfold RowKit.wrap64; omega
  rw [hmw]
  clear hmw
  have HE := Lib.hid (root_E m hm0); have HN := Lib.hid (root_N m); have HD := Lib.hid (root_D m hm0)
  have s1 := fun w => split_any (slashes m) (by rw [slashes_size]; omega) w
  have p1 := fun w => parent_any (slashes m) (by rw [slashes_size]; omega) w
  unfold SplitPost at s1
  unfold ParPost at p1
  have S1 := Lib.hid s1; have P1 := Lib.hid p1
  clear s1 p1
  go_loop [3, 4] (fun t i => ∃ k : Nat, k ≤ m ∧ i = .int .i64 k ∧ t = .string (slashes k)) (fun _ i => m - (intOf i).toNat)
  case atStart => exact ⟨0, Nat.zero_le _, rfl, rfl⟩
  case round =>
    obtain ⟨k, hk, rfl, rfl⟩ := hrel
    by_cases hlt : k < m
    · have hsz := slashes_size k
      have hsu := slashes_succ k
      have HSU := Lib.hid hsu; clear hsu
      generalize slashes k = T at *
      go_wp2_with fail
      go_round
      case rel => exact ⟨k + 1, by omega, by go_num, by rw [HSU.out]⟩
      case measure => simp [intOf]; omega
    · obtain rfl : k = m := by omega
      generalize slashes k = T at *
      by_cases hbig : 255 < k
      · have q : decide ((255 : Int) < (k : Int)) = true := dec_true (by omega)
        have hE := HE.out; rw [if_pos hbig] at hE
        have hpE : parE T = 36 := by unfold parE; rw [hE]; rfl
        have S1' := S1.out; have P1' := P1.out
        rw [hE] at S1'
        rw [hpE] at P1'
        have S2 := Lib.hid S1'; have P2 := Lib.hid P1'
        clear hE hpE S1' P1'
        go_wp2_with fail
        refine (S2.out _).mono ?_
        rintro e w2 ⟨v2, rfl, hv2, hb2⟩
        have hbel2 := below_call hb1 hb2 (Nat.le_refl _)
        go_wp2_with fail
        refine (P2.out _).mono ?_
        rintro e w3 ⟨v3, rfl, hv3, hb3⟩
        have hbel3 := below_call hbel2 hb3 (Nat.le_refl _)
        go_wp2_with fail
        go_ret
        exact ⟨rfl, hbel3⟩
      · have q : decide ((255 : Int) < (k : Int)) = false := dec_false (by omega)
        have hE := HE.out; rw [if_neg hbig] at hE
        have hpE : parE T = 22 := by unfold parE; rw [hE, HN.out]; rfl
        have S1' := S1.out; have P1' := P1.out
        rw [hE, HN.out, HD.out hbig] at S1'
        rw [hpE] at P1'
        have S2 := Lib.hid S1'; have P2 := Lib.hid P1'
        clear hE hpE S1' P1'
        go_wp2_with fail
        refine (S2.out _).mono ?_
        rintro e w2 ⟨v2, rfl, hv2, hb2⟩
        have hbel2 := below_call hb1 hb2 (Nat.le_refl _)
        obtain ⟨a2, c2, rfl⟩ := hv2.shape
        go_wp2_with fail
        refine (P2.out _).mono ?_
        rintro e w3 ⟨v3, rfl, hv3, hb3⟩
        have hbel3 := below_call hbel2 hb3 (Nat.le_refl _)
        go_wp2_with fail
        go_ret
        exact ⟨rfl, hbel3⟩
end Go.Proofs.Ytpgeldhleikcdaa
