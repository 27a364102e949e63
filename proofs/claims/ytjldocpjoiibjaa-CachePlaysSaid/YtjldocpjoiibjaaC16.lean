/- Walk of marllaw09.Bytes of none and of one byte. -/
import Derived.Test.YtjldocpjoiibjaaC15
namespace Go.Proofs.Ytjldocpjoiibjaa
open Go.RowKit

def BytesPost (w : World) (l : List Value) (e : Ending) (w' : World) : Prop :=
  ∃ g, e = .returned (.slice (some ⟨g, 0, none⟩) 64 64) ∧ w.heap.size ≤ g ∧ g < w'.heap.size ∧ Below w.heap.size w w' ∧ ∀ j u, l[j]? = some u → w'.cell? ⟨g, 0 + j, none⟩ = some u
def zeros64 : List Value := List.replicate 64 (.int .u8 0)
theorem make64 (Z : Array Value) (hZ : Z = zeros64.toArray) (w : World) : (Instr.makeSlice 31 (.int .i64 64) (.int .i64 64)).run Try.prog w = .ok (.slice (some ⟨w.heap.size, 0, none⟩) 64 64) (w.alloc (.cells Z 5)) := by
  rw [hZ]; kernel_rfl
/-- The first k bytes are x, the others nought. -/
def part64 (x : Int) (k : Nat) : List Value := List.replicate k (.int .u8 x) ++ List.replicate (64 - k) (.int .u8 0)
theorem part64_set (x : Int) (k : Nat) (h : k < 64) : (part64 x k).toArray.setIfInBounds k (.int .u8 x) = (part64 x (k + 1)).toArray := by
  rw [List.setIfInBounds_toArray]
  congr 1
  unfold part64
  have h1 : List.replicate (64 - k) (Value.int .u8 0) = .int .u8 0 :: List.replicate (64 - (k + 1)) (Value.int .u8 0) := by
    rw [show 64 - k = (64 - (k + 1)) + 1 by omega, List.replicate_succ]
  rw [h1, List.set_append_right _ _ (by simp), List.length_replicate, Nat.sub_self, List.set_cons_zero, List.replicate_succ']
  simp

set_option maxHeartbeats 1000000 in
set_option maxRecDepth 100000 in
theorem bytes_nil (a : Option Addr) (c : Nat) (w : World) : Calls Try.prog 11 #[.slice a 0 c] w (BytesPost w zeros64) := by
  obtain ⟨Z, hZ⟩ : ∃ Z, Z = zeros64.toArray := ⟨_, rfl⟩
  have mk := make64 Z hZ
  have HZ := Lib.hid hZ; clear hZ
  go_enter Try.func11, Try.ntmps11
  go_wp2_with fail
  clear mk
  go_loop [8] (fun i => ∃ k : Nat, k ≤ 64 ∧ i = .int .i64 k) (fun i => 64 - (intOf i).toNat)
  case atStart => exact ⟨0, by omega, rfl⟩
  case round =>
    obtain ⟨k, hk, rfl⟩ := hrel
    by_cases hlt : k < 64
    · go_wp2_with fail
      go_round
      case rel => exact ⟨k + 1, by omega, by go_num⟩
      case measure => simp [intOf]; omega
    · obtain rfl : k = 64 := by omega
      go_wp2_with fail
      go_ret
      refine ⟨w.heap.size, rfl, Nat.le_refl _, by simp, below_alloc (Below.refl _ w) (Nat.le_refl _) _, fun j u hj => ?_⟩
      rw [Nat.zero_add]
      exact cell_blk_some (blk_new rfl) (by rw [HZ.out]; simpa using hj)

set_option maxHeartbeats 1000000 in
set_option maxRecDepth 100000 in
theorem bytes_one {w : World} {g c : Nat} {x : Int} (hc : w.cell? ⟨g, 0, none⟩ = some (.int .u8 x)) (hg : g < w.heap.size) : Calls Try.prog 11 #[.slice (some ⟨g, 0, none⟩) 1 c] w (BytesPost w (part64 x 64)) := by
  obtain ⟨Z, hZ⟩ : ∃ Z, Z = zeros64.toArray := ⟨_, rfl⟩
  have mk := make64 Z hZ
  have HZ := Lib.hid hZ; clear hZ
  go_enter Try.func11, Try.ntmps11
  go_wp2_with fail
  clear mk
  go_loopw [8] (fun i wr => ∃ k : Nat, k ≤ 64 ∧ i = .int .i64 k ∧ wr.heap[w.heap.size]? = some (.cells (part64 x k).toArray 5 (0, 0)) ∧ Below w.heap.size w wr) (fun i _ => 64 - (intOf i).toNat)
  case atStart => exact ⟨0, by omega, rfl, by rw [blk_new rfl, HZ.out]; rfl, below_alloc (Below.refl _ w) (Nat.le_refl _) _⟩
  case round =>
    obtain ⟨k, hk, rfl, hb, hbel⟩ := hrel
    by_cases hlt : k < 64
    · have hc2 : wr.cell? ⟨g, 0, none⟩ = some (.int .u8 x) := by rw [World.cell?_of_block (w := w) (a := ⟨g, 0, none⟩) (hbel.block g hg)]; exact hc
      have hsz : (part64 x k).length = 64 := by unfold part64; simp; omega
      have hcc : ∃ u, wr.cell? ⟨w.heap.size, k, none⟩ = some u := ⟨_, cell_blk_some hb (Array.getElem?_eq_getElem (by simp; omega))⟩
      obtain ⟨u, hcc⟩ := hcc
      have hf := free_blk (i := k) hb
      have hnew := blk_set (i := k) hb (.int .u8 x)
      rw [part64_set x k hlt] at hnew
      have hbel2 := hbel.setCell (p := ⟨w.heap.size, k, none⟩) (Nat.le_refl _) (.int .u8 x)
      have HN := Lib.hid hnew; have HB2 := Lib.hid hbel2
      clear hb hbel hnew hbel2 hc hsz
      have e1 : ((k : Int)).tmod 1 = 0 := by rw [Int.tmod_eq_emod_of_nonneg (by omega)]; omega
      go_wp2_with fail
      go_roundw
      case rel => exact ⟨k + 1, by omega, by go_num, HN.out, HB2.out⟩
      case measure => simp [intOf]; omega
    · obtain rfl : k = 64 := by omega
      have hsz := blk_lt hb
      go_wp2_with fail
      go_ret
      refine ⟨w.heap.size, rfl, Nat.le_refl _, hsz, hbel, fun j u hj => ?_⟩
      rw [Nat.zero_add]
      exact cell_blk_some hb (by simpa using hj)
end Go.Proofs.Ytjldocpjoiibjaa
