/- Walk of marllaw09.Bytes of any bytes. -/
import Derived.Test.YtjldocpjoiibjaaC25
namespace Go.Proofs.Ytjldocpjoiibjaa
open Go.RowKit

/-- A block's bytes, by going round in these. -/
def pat (xs : List Int) : List Value := (List.range 64).map fun i => .int .u8 (xs.getD (i % xs.length) 0)
theorem pat_len (xs : List Int) : (pat xs).length = 64 := by simp [pat]
theorem pat_one (xs : List Int) : ∀ u ∈ pat xs, u.oneCell' = true := fun u hu => by
  obtain ⟨i, _, rfl⟩ := List.mem_map.1 hu
  rfl
theorem pat_nil : pat [] = zeros64 := by rfl
def partP (xs : List Int) (k : Nat) : List Value := (pat xs).take k ++ List.replicate (64 - k) (.int .u8 0)
theorem partP_len (xs : List Int) {k : Nat} (h : k ≤ 64) : (partP xs k).length = 64 := by
  unfold partP; rw [List.length_append, List.length_take, pat_len, List.length_replicate]; omega
theorem partP_set (xs : List Int) (k : Nat) (h : k < 64) : (partP xs k).toArray.setIfInBounds k (.int .u8 (xs.getD (k % xs.length) 0)) = (partP xs (k + 1)).toArray := by
  rw [List.setIfInBounds_toArray]
  congr 1
  apply List.ext_getElem?
  intro i
  have hp : (pat xs)[k]? = some (.int .u8 (xs.getD (k % xs.length) 0)) := by unfold pat; rw [List.getElem?_map, List.getElem?_range h]; rfl
  rw [List.getElem?_set, partP_len xs (by omega)]
  unfold partP
  have hl1 : ((pat xs).take k).length = k := by rw [List.length_take, pat_len]; omega
  have hl2 : ((pat xs).take (k + 1)).length = k + 1 := by rw [List.length_take, pat_len]; omega
  by_cases h1 : k = i
  · subst h1
    rw [if_pos rfl, if_pos h, List.getElem?_append_left (by omega), List.getElem?_take, if_pos (by omega), hp]
  · rw [if_neg h1]
    by_cases h2 : i < k
    · rw [List.getElem?_append_left (by omega), List.getElem?_append_left (by omega), List.getElem?_take, List.getElem?_take, if_pos h2, if_pos (by omega)]
    · rw [List.getElem?_append_right (by omega), List.getElem?_append_right (by omega), hl1, hl2, List.getElem?_replicate, List.getElem?_replicate]
      by_cases h3 : i < 64
      · rw [if_pos (by omega), if_pos (by omega)]
      · rw [if_neg (by omega), if_neg (by omega)]

set_option maxHeartbeats 1000000 in
set_option maxRecDepth 100000 in
theorem bytes_any {w : World} {g o c : Nat} {xs : List Int} (hn : 0 < xs.length) (hl : xs.length ≤ 1000000) (hc : ∀ j, j < xs.length → w.cell? ⟨g, o + j, none⟩ = some (.int .u8 (xs.getD j 0))) (hg : g < w.heap.size) :
    Calls Try.prog 11 #[.slice (some ⟨g, o, none⟩) xs.length c] w (BytesPost w (pat xs)) := by
  obtain ⟨Z, hZ⟩ : ∃ Z, Z = zeros64.toArray := ⟨_, rfl⟩
  have mk := make64 Z hZ
  have HZ := Lib.hid hZ; clear hZ
  go_enter Try.func11, Try.ntmps11
  go_wp2_with fail
  clear mk
  go_loopw [8] (fun i wr => ∃ k : Nat, k ≤ 64 ∧ i = .int .i64 k ∧ wr.heap[w.heap.size]? = some (.cells (partP xs k).toArray 5 (0, 0)) ∧ Below w.heap.size w wr) (fun i _ => 64 - (intOf i).toNat)
  case atStart => exact ⟨0, by omega, rfl, by rw [blk_new rfl, HZ.out]; rfl, below_alloc (Below.refl _ w) (Nat.le_refl _) _⟩
  case round =>
    obtain ⟨k, hk, rfl, hb, hbel⟩ := hrel
    by_cases hlt : k < 64
    · have hm := Nat.mod_lt k hn
      have hset := partP_set xs k hlt
      have e1 : ((k : Int)).tmod (xs.length : Int) = ((k % xs.length : Nat) : Int) := by rw [Int.tmod_eq_emod_of_nonneg (by omega)]; omega
      generalize k % xs.length = q at hm hset e1
      have hc2 : wr.cell? ⟨g, o + q, none⟩ = some (.int .u8 (xs.getD q 0)) := by rw [World.cell?_of_block (w := w) (a := ⟨g, o + q, none⟩) (hbel.block g hg)]; exact hc q hm
      have hcc : ∃ u, wr.cell? ⟨w.heap.size, k, none⟩ = some u := ⟨_, cell_blk_some hb (Array.getElem?_eq_getElem (by rw [List.size_toArray, partP_len xs (by omega)]; exact hlt))⟩
      obtain ⟨u, hcc⟩ := hcc
      have hf := free_blk (i := k) hb
      have hnew := blk_set (i := k) hb (.int .u8 (xs.getD q 0))
      rw [hset] at hnew
      have hbel2 := hbel.setCell (p := ⟨w.heap.size, k, none⟩) (Nat.le_refl _) (.int .u8 (xs.getD q 0))
      have m1 : (q : Int) < (xs.length : Int) := by omega
      have m2 : (0 : Int) ≤ (q : Int) := by omega
      have m3 : (0 : Int) < (xs.length : Int) := by omega
      have m4 : ((xs.length : Int) == 0) = false := by rw [beq_eq_false_iff_ne]; omega
      generalize xs.getD q 0 = x at hc2 hnew hbel2
      have HN := Lib.hid hnew; have HB2 := Lib.hid hbel2
      clear hb hbel hnew hbel2 hc hset
      go_wp2_with fail
      go_roundw
      case rel => exact ⟨k + 1, by omega, by go_num, HN.out, HB2.out⟩
      case measure => simp [intOf]; omega
    · obtain rfl : k = 64 := by omega
      have hsz := blk_lt hb
      have hpp : partP xs 64 = pat xs := by unfold partP; rw [List.take_of_length_le (by rw [pat_len]; exact Nat.le_refl _)]; simp
      rw [hpp] at hb
      have HB := Lib.hid hb; have HBL := Lib.hid hbel
      clear hb hbel hc
      go_wp2_with fail
      go_ret
      refine ⟨w.heap.size, rfl, Nat.le_refl _, hsz, HBL.out, fun j u hj => ?_⟩
      rw [Nat.zero_add]
      exact cell_blk_some HB.out (by simpa using hj)
end Go.Proofs.Ytjldocpjoiibjaa
