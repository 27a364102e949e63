/- Walk of tree's New. -/
import Derived.Test.YtoofcnehoffllaaT7
import Derived.Laws.MakeOwn
namespace Go.Proofs.Ytoofcnehoffllaa
open Go.RowKit

/-- A tree with just its root. -/
def newM : TM := fun i => if i = 2 then some ⟨some fun _ => none, [], 1⟩ else none
def at2 (b : Nat) : Nat → Option Nat := fun i => if i = 2 then some b else none
theorem newM_ok {cap : Nat} (h : 5 ≤ cap) : TOk newM cap := by
  refine ⟨rfl, fun i nd hm => ?_, fun i s j he => ?_⟩
  · unfold newM at hm
    split at hm
    · omega
    · cases hm
  · unfold entN newM at he
    by_cases hi : i = 2
    · rw [if_pos hi] at he; cases he
    · rw [if_neg hi] at he; cases he
theorem new_in {w : World} {tb nb eb b2 cap : Nat} {cs : Array Value} (htop : w.heap[tb]? = some (.cells #[.slice (some ⟨nb, 0, none⟩) cap cap] 63 (0, 0)))
    (hrow : w.heap[nb]? = some (.cells cs 64 (0, 0))) (hz : cs.size = cap) (hcs : ∀ i, i < cap → cs[i]? = some (nptr (at2 b2 i)))
    (hmap : w.heap[eb]? = some (.map #[] 0)) (hnode : w.heap[b2]? = some (.cells #[.int .i64 2, .map (some eb), .slice none 0 0, .int .i64 1] 67 (0, 0))) (hc : 5 ≤ cap ∧ cap ≤ 201) :
    TIn w tb nb cap (at2 b2) (at2 eb) (fun _ => .slice none 0 0) newM := by
  have hm : ∀ i nd, newM i = some nd → i = 2 ∧ nd = ⟨some fun _ => none, [], 1⟩ := fun i nd h => by
    unfold newM at h
    split at h
    · rename_i hi; injection h with h; exact ⟨hi, h.symm⟩
    · cases h
  have hp : ∀ {b : Nat} {i c : Nat}, at2 b i = some c → i = 2 ∧ c = b := fun {b i c} h => by
    unfold at2 at h
    split at h
    · rename_i hi; injection h with h; exact ⟨hi, h.symm⟩
    · cases h
  refine ⟨htop, ⟨cs, hrow, hz, hcs⟩, fun i => ?_, fun i b nd h1 h2 => ?_, fun i nd h => ?_, fun i nd h => ?_, fun i j b h1 h2 => by rw [(hp h1).1, (hp h2).1], fun i j b h1 h2 => by rw [(hp h1).1, (hp h2).1], fun i j b h1 _ => (by cases h1), fun i h => ?_, newM_ok hc.1, hc.2⟩
  · unfold at2 newM
    by_cases hi : i = 2
    · rw [if_pos hi, if_pos hi]; rfl
    · rw [if_neg hi, if_neg hi]; rfl
  · obtain ⟨rfl, rfl⟩ := hm i nd h2
    obtain ⟨_, rfl⟩ := hp h1
    exact hnode
  · obtain ⟨rfl, rfl⟩ := hm i nd h
    exact ⟨rfl, .inl ⟨rfl, rfl⟩⟩
  · obtain ⟨rfl, rfl⟩ := hm i nd h
    exact ⟨eb, rfl, MapIs.new _ _ _ hmap⟩
  · unfold newM at h
    by_cases hi : i = 2
    · rw [if_pos hi] at h; cases h
    · unfold at2
      rw [if_neg hi]; exact ⟨rfl, rfl⟩
set_option maxHeartbeats 2000000 in
set_option maxRecDepth 100000 in
theorem new_bad {n : Int} (hn : n < 4 ∨ 200 < n) (w : World) : Calls Try.prog 9 #[.int .i64 n] w fun e w' => e = .returned (.tuple #[.pointer none, .int .i64 22]) ∧ w' = w := by
  by_cases h4 : n < 4
  · clear hn
    go_enter Try.func9, Try.ntmps9
    go_wp2_with fail
    go_ret2
    exact ⟨rfl, rfl⟩
  · have h2 : 200 < n := by omega
    clear hn
    go_enter Try.func9, Try.ntmps9
    go_wp2_with fail
    go_ret2
    exact ⟨rfl, rfl⟩
set_option maxHeartbeats 2000000 in
set_option maxRecDepth 100000 in
theorem new_any {n : Nat} (h4 : 4 ≤ n) (h2 : n ≤ 200) (w : World) : Calls Try.prog 9 #[.int .i64 n] w fun e w' => ∃ tb nb eb b2, e = .returned (.tuple #[.pointer (some ⟨tb, 0, none⟩), .int .i64 0]) ∧ TIn w' tb nb (n + 1) (at2 b2) (at2 eb) (fun _ => .slice none 0 0) newM ∧ w.heap.size ≤ tb ∧ w.heap.size ≤ nb ∧ w.heap.size ≤ eb ∧ w.heap.size ≤ b2 ∧ Below w.heap.size w w' := by
  obtain ⟨i0, hi, hz0, hz1, hz2⟩ := info_parts (P := Try.prog) (e := 64) (z := .pointer none) (size := 1) (bytes := 8) (by kernel_rfl)
  have hmk := run_makeSlice (P := Try.prog) w 61 64 i0 _ Try.underlying61 hi hz0 .i64 .i64 ((n : Int) + 1) ((n : Int) + 1) (by omega) (by omega) (by rw [hz1]; omega) (by rw [hz2]; omega) (by omega)
  have mm := fun w => run_makeMap (P := Try.prog) 65 w
  have hb1 : (4 : Int) ≤ (n : Int) := by omega
  have hb2 : (n : Int) ≤ 200 := by omega
  rw [show ((n : Int) + 1).toNat = n + 1 by omega, hz1, Nat.mul_one, show (Value.pointer none).cells = #[.pointer none] from rfl] at hmk
  obtain ⟨Z, hZ⟩ : ∃ Z, Z = madeCells #[.pointer none] (n + 1) := ⟨_, rfl⟩
  have hZs : Z.size = n + 1 := by rw [hZ]; exact size_madeCells _ _
  have hZc : ∀ i, i < n + 1 → Z[i]? = some (.pointer none) := fun i hi => by
    have := toList_madeCells_one (.pointer none) (n + 1)
    rw [← hZ] at this
    rw [← Array.getElem?_toList, this, List.getElem?_replicate, if_pos hi]
  rw [← hZ] at hmk
  have B0 : ((((w.alloc (.cells Z 64)).alloc (.cells #[.slice (some ⟨w.heap.size, 0, none⟩) (n + 1) (n + 1)] 63)).alloc (.map #[] 0)).alloc (.cells #[.int .i64 2, .map (some (w.heap.size + 1 + 1)), .slice none 0 0, .int .i64 1] 67)).heap[w.heap.size]? = some (.cells Z 64 (0, 0)) := blk_old (blk_old (blk_old (blk_new rfl)))
  have B1 : ((((w.alloc (.cells Z 64)).alloc (.cells #[.slice (some ⟨w.heap.size, 0, none⟩) (n + 1) (n + 1)] 63)).alloc (.map #[] 0)).alloc (.cells #[.int .i64 2, .map (some (w.heap.size + 1 + 1)), .slice none 0 0, .int .i64 1] 67)).heap[w.heap.size + 1]? = some (.cells #[.slice (some ⟨w.heap.size, 0, none⟩) (n + 1) (n + 1)] 63 (0, 0)) := blk_old (blk_old (blk_new (by simp)))
  have B2 : ((((w.alloc (.cells Z 64)).alloc (.cells #[.slice (some ⟨w.heap.size, 0, none⟩) (n + 1) (n + 1)] 63)).alloc (.map #[] 0)).alloc (.cells #[.int .i64 2, .map (some (w.heap.size + 1 + 1)), .slice none 0 0, .int .i64 1] 67)).heap[w.heap.size + 1 + 1]? = some (.map #[] 0) := blk_old (blk_new (by simp))
  have B3 : ((((w.alloc (.cells Z 64)).alloc (.cells #[.slice (some ⟨w.heap.size, 0, none⟩) (n + 1) (n + 1)] 63)).alloc (.map #[] 0)).alloc (.cells #[.int .i64 2, .map (some (w.heap.size + 1 + 1)), .slice none 0 0, .int .i64 1] 67)).heap[w.heap.size + 1 + 1 + 1]? = some (.cells #[.int .i64 2, .map (some (w.heap.size + 1 + 1)), .slice none 0 0, .int .i64 1] 67 (0, 0)) := blk_new (by simp)
  have BE : Below w.heap.size w ((((w.alloc (.cells Z 64)).alloc (.cells #[.slice (some ⟨w.heap.size, 0, none⟩) (n + 1) (n + 1)] 63)).alloc (.map #[] 0)).alloc (.cells #[.int .i64 2, .map (some (w.heap.size + 1 + 1)), .slice none 0 0, .int .i64 1] 67)) := ((((Below.refl _ w).alloc (Nat.le_refl _) _).alloc (by simp) _).alloc (by simp; omega) _).alloc (by simp; omega) _
  have c2 := cell_blk_some B0 (hZc 2 (by omega))
  have f2 := free_blk (i := 2) B0
  have HB0 := Lib.hid B0; have HB1 := Lib.hid B1; have HB2 := Lib.hid B2; have HB3 := Lib.hid B3; have HBE := Lib.hid BE; have HZS := Lib.hid hZs; have HZC := Lib.hid hZc
  clear hi hz0 hz2 hz1 B0 B1 B2 B3 BE hZs hZc hZ
  go_enter Try.func9, Try.ntmps9
  go_wp2_with fail
  go_ret2
  refine ⟨w.heap.size + 1, w.heap.size, w.heap.size + 1 + 1, w.heap.size + 1 + 1 + 1, rfl, ?_, by omega, by omega, by omega, by omega, ((((Below.refl _ w).alloc (Nat.le_refl _) _).alloc (by simp) _).alloc (by simp; omega) _).alloc (by simp; omega) _⟩
  refine new_in (cs := Z.setIfInBounds 2 (.pointer (some ⟨w.heap.size + 1 + 1 + 1, 0, none⟩))) (blk_old (blk_old (blk_new (by simp)))) (blk_old (blk_old (blk_old (blk_new rfl)))) (by rw [Array.size_setIfInBounds, HZS.out]) (fun i hi => ?_) (blk_old (blk_new (by simp))) (blk_new (by simp)) ⟨by omega, by omega⟩
  rw [Array.getElem?_setIfInBounds]
  unfold at2
  by_cases h2' : i = 2
  · rw [if_pos h2'.symm, if_pos (by rw [HZS.out]; omega), if_pos h2']; rfl
  · rw [if_neg (fun e => h2' e.symm), if_neg h2']
    exact HZC.out i hi
end Go.Proofs.Ytoofcnehoffllaa
