/- Blocks of pointers of a file, as numbers: level, first data, parent, children; all by reckoning over the 642 blocks that there are. -/
/- Walks of the index package: wide, rootOf, number, find, Level, Covers. -/
import Derived.Test.YtklamgijikcnaaaDoorMaps
import Derived.Deep.RegionHeld3
import Derived.Deep.RegionHeldLaw
namespace Go.Proofs.YtklamgijikcnaaaDoor
open Go.RowKit

def spanN : Nat → Int
  | 0 => 0
  | 1 => 6
  | 2 => 22
  | 3 => 278
  | _ => 1073741824
def rootN (f : Int) : Nat := if f < 6 then 0 else if f < 22 then 1 else if f < 278 then 2 else 3
def wideN : Nat → Int
  | 0 => 1
  | 1 => 16
  | 2 => 256
  | _ => 4096
/-- Is n a block of pointers of level l? -/
def hitN (n : Int) (l : Nat) : Bool := decide (0 ≤ -(n + l - 1)) && decide (-(n + l - 1) < 600) && decide (l ≤ rootN (-(n + l - 1))) && decide ((-(n + l - 1) - spanN (rootN (-(n + l - 1)))) % wideN l = 0)
/-- A block's level, the first data that it covers. -/
def findN (n : Int) : Option (Nat × Int) :=
  if 0 ≤ n then (if n < 600 then some (0, n) else none) else if hitN n 1 then some (1, -n) else if hitN n 2 then some (2, -(n + 1)) else if hitN n 3 then some (3, -(n + 2)) else none
def lvlN (n : Int) : Nat := ((findN n).map (·.1)).getD 0
def fstN (n : Int) : Int := ((findN n).map (·.2)).getD 0
/-- At level j, on the way to data f: the block of pointers, the slot in it. -/
def wayN (f : Int) (j : Nat) : Int × Int :=
  let k := rootN f
  let i := f - spanN k
  (-(spanN k + (i - i % wideN j)) - ((j : Int) - 1), (i - (i - i % wideN j)) / wideN (j - 1))
/-- All blocks of pointers on the way to a block, from the inode on. -/
def pathN (n : Int) : List (Int × Int) := ((List.range (rootN (fstN n) - lvlN n)).map fun t => wayN (fstN n) (rootN (fstN n) - t))
/-- What leads to a block, and where: 600 is the inode. -/
def upN (n : Int) : Int × Int := if rootN (fstN n) = 0 then (600, fstN n) else if lvlN n = rootN (fstN n) then (600, 6 + rootN (fstN n) - 1) else wayN (fstN n) (lvlN n + 1)
/-- All blocks of pointers, in order. -/
def metasN : List Int := [-6, -23] ++ (List.range 16).map (fun (i : Nat) => -(22 + 16 * (i : Int))) ++ [-280, -279] ++ (List.range 16).map (fun (i : Nat) => -(278 + 16 * (i : Int))) ++ [-535] ++ (List.range 5).map (fun (i : Nat) => -(534 + 16 * (i : Int)))
/-- The block to which a pointer leads. -/
def childN (n : Int) (s : Nat) : Option Int :=
  if n = 600 then some (([0, 1, 2, 3, 4, 5, -6, -23, -280] : List Int)[s]?.getD 0) else
    let at_ := fstN n + s * wideN (lvlN n - 1)
    if 600 ≤ at_ then none else if lvlN n = 1 then some at_ else some (-at_ - ((lvlN n : Int) - 2))
end Go.Proofs.YtklamgijikcnaaaDoor

namespace Go.Proofs.YtklamgijikcnaaaDoor
open Go.RowKit

/-- The table of the index package lies in memory as its initialiser lays it. -/
structure SpanAt (w : World) : Prop where
  lt : 0 < w.heap.size
  c : ∀ k : Nat, k < 5 → w.cell? ⟨0, k, none⟩ = some (.int .i64 (spanN k))
theorem SpanAt.fr {w w' : World} {S : Nat → Prop} (h : SpanAt w) (hf : Fr S w w') (hs : ¬ S 0) : SpanAt w' :=
  ⟨Nat.lt_of_lt_of_le h.lt hf.size, fun k hk => (World.cell?_of_block (w := w) (a := ⟨0, k, none⟩) (hf.block _ h.lt hs)).trans (h.c k hk)⟩
theorem SpanAt.below {w w' : World} (h : SpanAt w) (hb : Below w.heap.size w w') : SpanAt w' := h.fr (S := fun _ => False) (Fr.below hb) id
theorem SpanAt.alloc {w : World} (h : SpanAt w) (o : Obj) : SpanAt (w.alloc o) := h.fr (S := fun _ => False) ((Fr.refl _ w).alloc o) id
theorem SpanAt.drewN {w : World} (h : SpanAt w) (n : Nat) : SpanAt (w.drewN n) := h.fr (S := fun _ => False) ((Fr.refl _ w).drewN n) id
theorem SpanAt.drew {w : World} (h : SpanAt w) : SpanAt w.drew := h.fr (S := fun _ => False) ((Fr.refl _ w).drew) id

theorem wideN_succ {k : Nat} (h : k < 3) : wideN (k + 1) = wideN k * 16 := by
  match k, h with
  | 0, _ => rfl
  | 1, _ => rfl
  | 2, _ => rfl
theorem wideN_bd (k : Nat) : 1 ≤ wideN k ∧ wideN k ≤ 4096 := by
  match k with
  | 0 => decide
  | 1 => decide
  | 2 => decide
  | (n + 3) => exact ⟨by show (1 : Int) ≤ 4096; decide, Int.le_refl _⟩
theorem wide_any (l : Nat) (hl : l ≤ 3) (w : World) :
    Calls Tryd.prog 68 #[.int .i64 l] w fun e w' => e = .returned (.int .i64 (wideN l)) ∧ w' = w := by
  go_enter Tryd.func68, Tryd.ntmps68
  go_wp2_with fail
  go_loop [3, 5] (fun n i => ∃ k : Nat, k ≤ l ∧ i = .int .i64 k ∧ n = .int .i64 (wideN k)) (fun _ i => l - (RowKit.intOf i).toNat)
  case atStart => exact ⟨0, Nat.zero_le _, rfl, rfl⟩
  case round =>
    obtain ⟨k, hk, rfl, rfl⟩ := hrel
    have hb := wideN_bd k
    obtain ⟨hb1, hb2⟩ := hb
    by_cases hlt : k < l
    · have hs := Lib.hid (wideN_succ (k := k) (by omega))
      go_wp2_with fail
      go_round
      case rel => exact ⟨k + 1, by omega, by go_num, by rw [hs.out]⟩
      case measure => simp [RowKit.intOf]; omega
    · go_wp2_with fail
      go_ret
      obtain rfl : k = l := by omega
      exact ⟨rfl, rfl⟩
theorem spanN_le (f : Int) (h : f < 1073741824) (k : Nat) (hk : k ≤ rootN f) : (k < rootN f → spanN (k + 1) ≤ f) ∧ (k = rootN f → f < spanN (k + 1)) := by
  unfold rootN at *
  constructor
  · intro h
    have : k = 0 ∨ k = 1 ∨ k = 2 := by split at h <;> (try split at h) <;> (try split at h) <;> omega
    rcases this with rfl | rfl | rfl <;> simp only [spanN] <;> (split at h <;> (try split at h) <;> (try split at h) <;> omega)
  · intro h
    split at h <;> (try split at h) <;> (try split at h) <;> subst h <;> simp only [spanN] <;> omega
theorem rootN_le (f : Int) : rootN f ≤ 3 := by unfold rootN; split <;> (try split) <;> (try split) <;> omega
theorem rootOf_any (f : Int) (_h0 : 0 ≤ f) (h1 : f < 1073741824) {w : World} (S : SpanAt w) :
    Calls Tryd.prog 67 #[.int .i64 f] w fun e w' => e = .returned (.int .i64 (rootN f)) ∧ w' = w := by
  have SP := Lib.hid S; clear S
  have hr := rootN_le f
  go_enter Tryd.func67, Tryd.ntmps67
  go_wp2_with fail
  go_loop [3] (fun i => ∃ k : Nat, k ≤ rootN f ∧ i = .int .i64 k) (fun i => rootN f - (RowKit.intOf i).toNat)
  case atStart => exact ⟨0, Nat.zero_le _, rfl⟩
  case round =>
    obtain ⟨k, hk, rfl⟩ := hrel
    have hc := SP.out.c (k + 1) (by omega)
    obtain ⟨ha, hb⟩ := spanN_le f h1 k hk
    have hk3 : (k : Int) + 1 ≤ 4 := by omega
    by_cases hlt : k < rootN f
    · have ha1 := ha hlt
      clear ha hb
      go_wp2_with fail
      go_round
      case rel => exact ⟨k + 1, by omega, by go_num⟩
      case measure => simp [RowKit.intOf]; omega
    · have hkk : k = rootN f := by omega
      have hb1 := hb hkk
      have HK := Lib.hid hkk
      clear ha hb hkk
      go_wp2_with fail
      go_ret
      exact ⟨by rw [← HK.out]; rfl, rfl⟩
theorem number_any (f : Int) (l : Nat) (h0 : 0 ≤ f) (h1 : f ≤ 100000) (hl : l ≤ 10) (w : World) :
    Calls Tryd.prog 82 #[.int .i64 f, .int .i64 l] w fun e w' => e = .returned (.int .i64 (-f - ((l : Int) - 1))) ∧ w' = w := by
  go_enter Tryd.func82, Tryd.ntmps82
  go_wp2_with fail
  go_ret
  exact ⟨rfl, rfl⟩
end Go.Proofs.YtklamgijikcnaaaDoor
