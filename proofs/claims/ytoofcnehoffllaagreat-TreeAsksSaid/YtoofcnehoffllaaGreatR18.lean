/- Walks of the reference's sized, Stat, List, Read. -/
import Derived.Test.YtoofcnehoffllaaGreatR11
import Derived.Test.YtoofcnehoffllaaGreatT35
import Derived.Test.YtoofcnehoffllaaGreatT21
namespace Go.Proofs.YtoofcnehoffllaaGreat
open Go.RowKit

theorem str_size (x : List Int) : (strOfNums x).size = x.length := by
  rw [Lib.size_eq]; unfold strOfNums; simp
theorem str_data (x : List Int) : (strOfNums x).data.toList = x.map fun z => UInt8.ofNat z.toNat := by
  unfold strOfNums; simp
theorem str_app (x y : List Int) : strOfNums x ++ strOfNums y = strOfNums (x ++ y) := by
  apply data_inj
  rw [str_data]
  simp [str_data]
theorem str_cut (x : List Int) (a b : Nat) : (strOfNums x).extract a b = strOfNums ((x.drop a).take (b - a)) := by
  apply data_inj
  rw [str_data]
  simp [str_data, ByteArray.data_extract, Array.toList_extract, List.extract_eq_take_drop, List.map_take, List.map_drop]
section
variable {w : World}
set_option maxHeartbeats 4000000 in
set_option maxRecDepth 100000 in
theorem sized_any (x : List Int) (hx : x.length ≤ 1000000) (n : Nat) (hn : n ≤ 1000000) :
    Calls Tryz.prog 61 #[.string (strOfNums x), .int .i64 n] w fun e w' => e = .returned (.string (strOfNums (sizedN x n))) ∧ Below w.heap.size w w' := by
  have hsz := str_size x
  have HSZ := Lib.hid hsz
  by_cases h : n < x.length
  · have hq : decide ((n : Int) < (x.length : Int)) = true := dec_true (by omega)
    have hc := str_cut x 0 n
    have hr : sizedN x n = (x.drop 0).take (n - 0) := by unfold sizedN; rw [List.take_append_of_le_length (by omega)]; simp
    have HC := Lib.hid hc; have HR := Lib.hid hr
    generalize strOfNums x = s at *
    clear hc hr
    go_enter Tryz.func61, Tryz.ntmps61
    go_wp2_with fail
    go_ret
    exact ⟨by rw [HR.out, ← HC.out]; rfl, Below.refl _ _⟩
  · have hq : decide ((n : Int) < (x.length : Int)) = false := dec_false (by omega)
    obtain ⟨k, hk⟩ : ∃ k : Nat, (n : Int) - (x.length : Int) = (k : Int) := ⟨n - x.length, by omega⟩
    obtain ⟨i0, hi, hz0, hz1, hz2⟩ := info_parts (show (Tryz.prog.info? 5).map (fun i => (i.zero, i.size, i.bytes)) = some (some (.int .u8 0), 1, 1) by kernel_rfl)
    obtain ⟨w1, hmk, hown, hgr⟩ := run_makeSlice_full (P := Tryz.prog) w w.heap.size 34 5 i0 (.int .u8 0) 1 Tryz.underlying34 hi hz0 hz1 .i64 .i64 k (by omega) (by rw [hz2]; omega) (by unfold maxLen; omega) (Nat.le_refl _)
    have hzs : (madeCells (Value.int .u8 0).cells (k * 1)).toList = u8s (List.replicate k 0) := by
      have := toList_madeCells_one (.int .u8 0) (k * 1)
      rw [Nat.mul_one] at this ⊢
      unfold u8s
      rw [List.map_replicate]
      exact this
    rw [hzs] at hown
    have hsrc : SrcG 1 w1 (.slice (some ⟨w.heap.size, 0, none⟩) k k) (List.replicate k (0 : Int)).length (u8s (List.replicate k 0)) := by
      rw [List.length_replicate]
      exact SrcG.of_own hown (u8s_one _)
    have hcv := SrcG.str hsrc
    have hbl : Below w.heap.size w w1 := (Fr.grown hgr).toBelow (Nat.le_refl _) fun x hx => by cases hx
    have hap := str_app x (List.replicate k 0)
    have hrs : sizedN x n = x ++ List.replicate k 0 := by
      unfold sizedN
      rw [show n - x.length = k by omega]
      exact List.take_of_length_le (by rw [List.length_append, List.length_replicate]; omega)
    have hs2 : (strOfNums (List.replicate k (0 : Int))).size = k := by rw [str_size, List.length_replicate]
    have HFIN : Hid (strOfNums (sizedN x n) = strOfNums x ++ strOfNums (List.replicate k 0)) := Lib.hid (by rw [hrs, hap])
    have HBL := Lib.hid hbl
    have hbig : ¬ 9223372036854775807 < (strOfNums x).size + (strOfNums (List.replicate k (0 : Int))).size := by rw [hsz, hs2]; omega
    generalize hsx : strOfNums x = s at *
    generalize strOfNums (List.replicate k (0 : Int)) = z at *
    clear hap hrs hbl hown hgr hsrc hzs hsx hs2
    go_enter Tryz.func61, Tryz.ntmps61
    go_wp2_with fail
    go_ret
    exact ⟨by rw [HFIN.out]; rfl, HBL.out⟩
end
end Go.Proofs.YtoofcnehoffllaaGreat
