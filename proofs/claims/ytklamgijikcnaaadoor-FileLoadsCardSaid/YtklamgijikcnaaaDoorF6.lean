/- The library's functions at rows of ints that the call owns: Contains, Sort, Clip, DeleteFunc; Sorted(maps.Keys(m)). -/
import Derived.Test.YtklamgijikcnaaaDoorF5
import Derived.Test.YtklamgijikcnaaaDoorShelf
import Derived.Test.YtklamgijikcnaaaDoorShelfI
namespace Go.Proofs.YtklamgijikcnaaaDoor
open Go.RowKit

section
variable {w : World} {B : Nat} {v : Value} {l : List Int}
theorem contains_own (h : OwnI w B v l) (hl : l.length ≤ 1000000000) (x : Int) :
    Calls Tryd.prog 58 #[v, .int .i64 x] w fun e w' => e = .returned (.bool (l.contains x)) ∧ w' = w := by
  by_cases h0 : 0 < l.length
  · obtain ⟨g, c, rfl, _, _, _, hc, _⟩ := h.cells h0
    have := Tryd.slices_Contains_int g 0 l.length c l x w (Nat.le_refl _) (by omega) (fun j hj => by
      rw [Nat.zero_add]
      refine hc j _ ?_
      rw [List.getD_eq_getElem?_getD, List.getElem?_eq_getElem hj]; rfl)
    rw [List.take_length] at this
    exact this
  · obtain ⟨a, c, rfl⟩ := h.shape
    have hn : l = [] := List.eq_nil_of_length_eq_zero (by omega)
    subst hn
    exact Tryd.slices_Contains_int_empty a c x w
/-- A row, rising. -/
def sortI (l : List Int) : List Int := l.mergeSort fun x y => decide (x ≤ y)
theorem sortI_perm (l : List Int) : (sortI l).Perm l := List.mergeSort_perm l _
theorem sortI_length (l : List Int) : (sortI l).length = l.length := (sortI_perm l).length_eq
theorem sortI_of_perm {l m : List Int} (h : l.Perm m) : sortI l = sortI m := mergeSort_of_perm_i h
theorem sortI_sorted (l : List Int) : (sortI l).Pairwise (· ≤ ·) := by
  have := List.pairwise_mergeSort (le := fun x y : Int => decide (x ≤ y)) (fun a b c h1 h2 => by simp only [decide_eq_true_eq] at *; omega) (fun a b => by simp only [Bool.or_eq_true, decide_eq_true_eq]; omega) l
  exact this.imp fun h => by simpa using h
theorem sortI_eq {l m : List Int} (h : m.Perm l) (hs : m.Pairwise (· ≤ ·)) : sortI l = m :=
  List.Perm.eq_of_pairwise (le := (· ≤ ·)) (fun a b _ _ h1 h2 => by omega) (sortI_sorted l) hs ((sortI_perm l).trans h.symm)
theorem sort_own (h : OwnI w B v l) (hl : l.length ≤ 1000000000) :
    Calls Tryd.prog 30 #[v] w fun e w' => e = .returned (.tuple #[]) ∧ OwnI w' B v (sortI l) ∧ Fr (fun x => v.ownBlock = some x) w w' := by
  have hlen := sortI_length l
  rcases h.2 with ⟨rfl, h0⟩ | ⟨g, cap, cur, rfl, h0, hg, hc, hm, hs, ht⟩
  · have hn : l = [] := List.eq_nil_of_length_eq_zero h0
    subst hn
    refine (Tryd.slices_Sort_int_none none 0 w).mono ?_
    rintro e w' ⟨rfl, rfl⟩
    exact ⟨rfl, by unfold sortI; rw [List.mergeSort_nil]; exact h, Fr.refl _ _⟩
  · have ht' : cur.toList.take l.length = l.map encZ := by rw [Nat.mul_one] at ht; exact ht
    refine (Tryd.slices_Sort_int g 0 cap l w (holds_of_block_i hg ht') (blk_lt hg) (by omega)).mono ?_
    rintro e w' ⟨rfl, n, os, rfl⟩
    refine ⟨rfl, ?_, Fr.grown (o := some g) (grownBy_sorted_i _)⟩
    have := ownsRow_sorted_i (w := w) (n := n) (os := os) hlen h0 hg hc hm hs
    unfold OwnI IntsAt
    rw [hlen]
    exact this
theorem clip_any (a : Option Addr) (n c : Nat) (hn : n ≤ c) (w : World) :
    Calls Tryd.prog 35 #[.slice a n c] w fun e w' => e = .returned (.slice a n n) ∧ w' = w := by
  have m1 : (n : Int) ≤ (c : Int) := by omega
  have m2 : (0 : Int) ≤ (n : Int) := by omega
  go_enter Tryd.func35, Tryd.ntmps35
  go_wp2_with fail
  go_ret
  exact ⟨rfl, rfl⟩
end
section
variable {w : World} {mb : Nat} {f : Int → Option Value}
theorem sortsA (m : Nat) : AnyZI.SortsIn Tryd.prog Tryd.sortedA_ren Fence.wide m :=
  ⟨fun blk off cap ss W hH hblk hsz => callsIn_wide.2 (Tryd.slices_Sort_int blk off cap ss W hH hblk hsz), fun p cap W => callsIn_wide.2 (Tryd.slices_Sort_int_none p cap W)⟩
theorem keys_any (m : Option Nat) (w : World) : Calls Tryd.prog 33 #[.map m] w fun e w' => e = .returned (.func (.func 56) #[] #[.pointer (some ⟨w.heap.size, 0, none⟩)]) ∧ w' = w.alloc (.cells #[.map m] 27) :=
  (callsIn_wide (n := 5)).1 (AnyZI.keys_in Tryd.keysA Fence.wide 5 trivial rfl m w)
/-- The keys of a map, rising. -/
theorem sorted_any (h : MapIs (Value.int .i64) w mb f) {z : Value} (hz : ∀ w, (zeroValue 3).run Tryd.prog w = .ok z w) (hw : ∀ k, (f k).isSome = true → -9223372036854775808 ≤ k ∧ k ≤ 9223372036854775807) {l : List Int} (hn : l.Nodup) (hl : ∀ k, k ∈ l ↔ (f k).isSome = true) (hmax : l.length ≤ 1000000) :
    Calls Tryd.prog 32 #[.func (.func 56) #[] #[.pointer (some ⟨w.heap.size, 0, none⟩)]] (w.alloc (.cells #[.map (some mb)] 27)) fun e w' => ∃ v, e = .returned v ∧ OwnI w' (w.heap.size + 1) v (sortI l) ∧ Below (w.heap.size + 1) (w.alloc (.cells #[.map (some mb)] 27)) w' := by
  obtain ⟨D0, hown, hp, hsz⟩ := h.owns (P := Tryd.prog) (K := 3) (t := 27) Tryd.underlying3 Tryd.underlying27 hz hw hn hl (by unfold maxLen; omega)
  have hseq : SeqGives Fence.wide 2 Tryd.prog 56 #[.pointer (some ⟨w.heap.size, 0, none⟩)] encZ (fun ss => ss.Perm (intKeys D0)) (Maps.size D0) (w.alloc (.cells #[.map (some mb)] 27)) :=
    AnyZI.keys_gives (ρ := Tryd.keysA_ren) { Tryd.keysA with } Fence.wide _ trivial rfl (by omega) w.heap.size mb l.length D0 _ (by simp) (by simp) (hown.alloc _)
  have cS := AnyZI.sorted_in Tryd.sortedA Fence.wide 5 trivial trivial trivial trivial rfl (by omega) (sortsA _) (enters_of Tryd.func30 (by kernel_rfl) rfl) 56 #[.pointer (some ⟨w.heap.size, 0, none⟩)] trivial (enters_of Tryd.func56 (by kernel_rfl) rfl) _ _ (by unfold maxLen; omega) (by omega) _ hseq
  change CallsIn _ _ Tryd.prog 32 _ _ _ at cS
  refine (callsIn_wide.1 cS).mono ?_
  rintro e w' ⟨v, ss, rfl, hs, hrow, hnil, hb⟩
  have hpl : ss.Perm l := hs.trans hp.symm
  have hsl : (ss.mergeSort fun x y => decide (x ≤ y)) = sortI l := mergeSort_of_perm_i hpl
  rw [hsl] at hrow
  have hsz1 : (w.alloc (.cells #[.map (some mb)] 27)).heap.size = w.heap.size + 1 := by simp
  rw [hsz1] at hrow hb
  refine ⟨v, rfl, ?_, hb⟩
  unfold OwnI IntsAt
  rw [sortI_length, ← hpl.length_eq]
  exact hrow
end
end Go.Proofs.YtklamgijikcnaaaDoor
