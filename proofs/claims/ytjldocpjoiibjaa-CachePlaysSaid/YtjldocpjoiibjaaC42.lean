/- Walks of the sort of a row of keys: cmp.Or, the closure, slices.SortFunc. -/
import Derived.Test.YtjldocpjoiibjaaC39
import Derived.Test.YtjldocpjoiibjaaShelfK
import Derived.Shelf.SlSortCmp.WholeK
import Derived.Deep.RegionHeld3
import Derived.Deep.RegionLaw
namespace Go.Proofs.Ytjldocpjoiibjaa
open Go.RowKit

def orI (a b : Int) : Int := if a = 0 then b else a
theorem or_any {w : World} {g : Nat} {a b : Int} (h0 : w.cell? ⟨g, 0, none⟩ = some (.int .i64 a)) (h1 : w.cell? ⟨g, 1, none⟩ = some (.int .i64 b)) :
    Calls Try.prog 45 #[.slice (some ⟨g, 0, none⟩) 2 2] w fun e w' => e = .returned (.int .i64 (orI a b)) ∧ w' = w := by
  go_enter Try.func45, Try.ntmps45
  go_wp2_with fail
  refine wp_loop_rounds 3 ?_
  rw [rounds_succ]
  by_cases ha : a = 0
  · subst ha
    go_wp2_with fail
    rw [rounds_succ]
    by_cases hb : b = 0
    · subst hb
      go_wp2_with fail
      rw [rounds_succ]
      go_wp2_with fail
      go_ret
      exact ⟨rfl, rfl⟩
    · have q : (b != 0) = true := by simp [hb]
      go_wp2_with fail
      go_ret
      exact ⟨rfl, rfl⟩
  · have q : (a != 0) = true := by simp [ha]
    go_wp2_with fail
    go_ret
    refine ⟨?_, rfl⟩
    unfold orI; rw [if_neg ha]; rfl

def keyCmp (x y : Int × Int) : Int := orI (Lib.compareInt x.1 y.1) (Lib.compareInt x.2 y.2)
def keyLt (x y : Int × Int) : Prop := x.1 < y.1 ∨ (x.1 = y.1 ∧ x.2 < y.2)
theorem keyCmp_lt (x y : Int × Int) : decide (keyCmp x y < 0) = true ↔ keyLt x y := by
  rw [decide_eq_true_iff]
  unfold keyCmp orI Lib.compareInt keyLt
  constructor
  · intro h
    split at h <;> (repeat' split at h) <;> omega
  · intro h
    (repeat' split) <;> omega

set_option maxHeartbeats 2000000 in
theorem cmpKey_any (x y : Int × Int) (W : World) : Calls Try.prog 44 #[keyV x, keyV y] W fun e w' => e = .returned (.int .i64 (keyCmp x y)) ∧ ∃ q os, w' = Sort.grow (W.drewN q) os := by
  obtain ⟨x1, x2⟩ := x
  obtain ⟨y1, y2⟩ := y
  unfold keyV keyCmp
  obtain ⟨cf, hcf⟩ : ∃ cf, cf = Lib.compareInt := ⟨_, rfl⟩
  have hc := compare_any
  rw [← hcf] at hc ⊢
  clear hcf
  go_enter Try.func44, Try.ntmps44
  go_wp2_with fail
  obtain ⟨w1, hw1⟩ : ∃ w1, w1 = (W.alloc (.cells #[.int .i64 x1, .int .i64 x2] 29)).alloc (.cells #[.int .i64 y1, .int .i64 y2] 29) := ⟨_, rfl⟩
  have bx : w1.heap[W.heap.size]? = some (.cells #[.int .i64 x1, .int .i64 x2] 29 (0, 0)) := by rw [hw1]; exact blk_old (blk_new rfl)
  have bY : w1.heap[W.heap.size + 1]? = some (.cells #[.int .i64 y1, .int .i64 y2] 29 (0, 0)) := by rw [hw1]; exact blk_new (by simp)
  have hs1 : w1.heap.size = W.heap.size + 2 := by rw [hw1]; simp
  have hX : (w1.drew.cell? ⟨W.heap.size, 0, none⟩ = some (.int .i64 x1) ∧ w1.drew.cell? ⟨W.heap.size, 1, none⟩ = some (.int .i64 x2)) ∧ w1.drew.cell? ⟨W.heap.size + 1, 0, none⟩ = some (.int .i64 y1) ∧ w1.drew.cell? ⟨W.heap.size + 1, 1, none⟩ = some (.int .i64 y2) :=
    ⟨⟨cell_blk_some bx rfl, cell_blk_some bx rfl⟩, cell_blk_some bY rfl, cell_blk_some bY rfl⟩
  have hgr : ∀ o, (w1.alloc o).drew = Sort.grow (W.drewN 1) #[.cells #[.int .i64 x1, .int .i64 x2] 29, .cells #[.int .i64 y1, .int .i64 y2] 29, o] := fun o => by
    rw [hw1]
    show World.mk .. = World.mk ..
    congr 1
  have hY : ∀ o, ((w1.alloc o).drew.cell? ⟨W.heap.size, 0, none⟩ = some (.int .i64 x1) ∧ (w1.alloc o).drew.cell? ⟨W.heap.size, 1, none⟩ = some (.int .i64 x2)) ∧ (w1.alloc o).drew.cell? ⟨W.heap.size + 1, 0, none⟩ = some (.int .i64 y1) ∧ (w1.alloc o).drew.cell? ⟨W.heap.size + 1, 1, none⟩ = some (.int .i64 y2) := fun o =>
    ⟨⟨cell_blk_some (w := w1.alloc o) (blk_old bx) rfl, cell_blk_some (w := w1.alloc o) (blk_old bx) rfl⟩, cell_blk_some (w := w1.alloc o) (blk_old bY) rfl, cell_blk_some (w := w1.alloc o) (blk_old bY) rfl⟩
  rw [← hw1]
  have HG := Lib.hid hgr; have HS := Lib.hid hs1
  clear bx bY hgr hs1 hw1
  have hn : W.heap.size ≠ W.heap.size + 1 := by omega
  generalize W.heap.size + 1 = b2 at hX hY hn ⊢
  generalize hb1 : W.heap.size = b1 at hX hY hn ⊢
  clear hb1
  go_region_held3 (fun w' => (w'.cell? ⟨b1, 0, none⟩ = some (.int .i64 x1) ∧ w'.cell? ⟨b1, 1, none⟩ = some (.int .i64 x2)) ∧ w'.cell? ⟨b2, 0, none⟩ = some (.int .i64 y1) ∧ w'.cell? ⟨b2, 1, none⟩ = some (.int .i64 y2))
      (first | assumption | exact hY _)
      (first
        | (go_at_call 45
           refine (or_any (w := (w1.alloc _).drew) (cell_blk_some (w := w1.alloc _) (blk_new rfl) rfl) (cell_blk_some (w := w1.alloc _) (blk_new rfl) rfl)).mono ?_
           rintro e wB ⟨rfl, hw⟩
           obtain rfl := hw.symm
           dsimp only)
        | (go_at_call 38
           refine (hc _ _ _).mono ?_
           rintro e wA ⟨rfl, hw⟩
           obtain rfl := hw.symm
           dsimp only))
  clear hX hY HS hn
  go_wp2_with fail
  go_ret
  exact ⟨rfl, 1, _, HG.out _⟩

theorem insKey_none (p : Option Addr) (cap : Nat) (fv : Value) (w : World) : Calls Try.prog 67 #[.slice p 0 cap, .int .i64 0, .int .i64 0, fv] w fun e w' => e = .returned (.tuple #[]) ∧ w' = w := by
  go_enter Try.func67, Try.ntmps67
  go_wp2_with fail
  refine wp_loop_rounds 1 ?_
  rw [rounds_succ]
  go_wp2_with fail
  go_end0
  exact ⟨rfl, rfl⟩
theorem pdqKey_none (p : Option Addr) (cap : Nat) (lim : Int) (fv : Value) (w : World) : Calls Try.prog 54 #[.slice p 0 cap, .int .i64 0, .int .i64 0, .int .i64 lim, fv] w fun e w' => e = .returned (.tuple #[]) ∧ w' = w := by
  have hi := fun W => insKey_none p cap fv W
  go_enter Try.func54, Try.ntmps54
  go_wp2_with fail
  refine wp_loop_rounds 1 ?_
  rw [rounds_succ]
  go_wp2_with (go_at_call 67; refine (hi _).mono ?_; rintro e w' ⟨rfl, rfl⟩)
  (try simp only [Exit.inBlock, Exit.then]); refine bodyPost_ret (results_none rfl _ _ _) rfl ?_
  exact ⟨rfl, rfl⟩
theorem sortKey_none (p : Option Addr) (cap : Nat) (fv : Value) (w : World) : Calls Try.prog 43 #[.slice p 0 cap, fv] w fun e w' => e = .returned (.tuple #[]) ∧ w' = w := by
  have hp := fun lim W => pdqKey_none p cap lim fv W
  have hb := fun w => Try.bits_Len 0 w (by omega) (by omega)
  go_enter Try.func43, Try.ntmps43
  go_wp2_with fail
  refine (hb _).mono ?_
  rintro e w' ⟨rfl, rfl⟩
  go_wp2_with fail
  refine (hp _ _).mono ?_
  rintro e w' ⟨rfl, rfl⟩
  go_wp2_with fail
  go_end0
  exact ⟨rfl, rfl⟩

def encK (k : Int × Int) : List Value := [.int .i64 k.1, .int .i64 k.2]
instance : Inhabited (Int × Int) := ⟨(0, 0)⟩
theorem sortWorldK_fr (w : World) (blk off m : Nat) (dk : Array (Int × Int)) (os : Array Obj) : Fr (fun x => x = blk) w (sortWorldK encK 2 w blk off m dk os) := by
  refine ⟨rfl, rfl, rfl, size_sortWorldK_c encK 2 w blk off m dk os, fun b hb hne => ?_⟩
  unfold sortWorldK
  rw [Sort.heap_grow_old _ _ (by rw [Sort.size_putRowK]; exact hb)]
  show (w.heap.modify blk _)[b]? = _
  rw [Array.getElem?_modify, if_neg (fun e => hne e.symm)]

set_option maxHeartbeats 1000000 in
set_option maxRecDepth 100000 in
/-- The sort of a row of keys. -/
theorem sortKey_any {w : World} {K : List (Int × Int)} {blk cap : Nat} (hl : K.length ≤ 1000000) (hka : KeysAt w blk K) (hfree : ∀ i, w.frozen? ⟨blk, i, none⟩ = false) :
    Calls Try.prog 43 #[.slice (some ⟨blk, 0, none⟩) K.length cap, .func (.func 44) #[] #[]] w fun e w' =>
      e = .returned (.tuple #[]) ∧ ∃ M : List (Int × Int), M.Perm K ∧ M.Pairwise (fun a b => ¬ keyLt b a) ∧ Fr (fun x => x = blk) w w' ∧ KeysAt w' blk M := by
  have hlt : ∀ x y, ltOf keyCmp x y = true ↔ keyLt x y := keyCmp_lt
  have hO : Sort.SWO (ltOf keyCmp) := ⟨fun x => by
      cases h : ltOf keyCmp x x with
      | false => rfl
      | true => rw [hlt] at h; unfold keyLt at h; omega, fun x y z h1 h2 => by rw [hlt] at *; unfold keyLt at *; omega, fun x y z h1 h2 => by
      cases h : ltOf keyCmp x z with
      | false => rfl
      | true =>
        have a1 : ¬ keyLt x y := fun h' => by rw [(hlt _ _).2 h'] at h1; cases h1
        have a2 : ¬ keyLt y z := fun h' => by rw [(hlt _ _).2 h'] at h2; cases h2
        rw [hlt] at h; unfold keyLt at *; omega⟩
  have eg : ∀ args w, (callFunc 44 args).run Try.prog w = .ok (.enter 44 args) w := enters_of Try.func44 (by kernel_rfl) rfl
  have hds : K.toArray.size = K.length := by simp
  have hH : Sort.HoldsK encK 2 w blk 0 K.toArray := fun t ht => by
    rw [Sort.size_flatK, hds] at ht
    rw [Sort.get_flatK _ _ _ _ (by rw [hds]; exact ht), Nat.zero_add]
    refine ⟨?_, hfree t⟩
    obtain ⟨k, hk⟩ : ∃ k, K[t / 2]? = some k := ⟨_, List.getElem?_eq_getElem (by omega)⟩
    have hk' : K.toArray[t / 2]! = k := by
      rw [getElem!_pos _ _ (by rw [hds]; omega)]
      simpa using (List.getElem?_eq_some_iff.1 hk).2
    rw [hk']
    rcases Nat.mod_two_eq_zero_or_one t with h | h
    · rw [h]
      have := hka.c1 _ k hk
      rwa [show t / 2 * 2 = t by omega] at this
    · rw [h]
      have := hka.c2 _ k hk
      rwa [show t / 2 * 2 + 1 = t by omega] at this
  have hcmp : CmpLays Try.prog 44 #[] encK 2 keyCmp blk 0 K.toArray.size w := fun m os dk _ x y => cmpKey_any x y _
  have key := AnyQ.slices_SortFunc Try.sortKey 2 (fun w => Try.isAgg29 w) (fun w => Try.sizeOf29 w) encK (fun _ => rfl) (fun x v hv => by
    simp only [encK, List.mem_cons, List.not_mem_nil, or_false] at hv
    rcases hv with rfl | rfl <;> rfl) keyCmp hO 44 #[] blk 0 cap K.toArray w eg hcmp hH hka.lt (by rw [hds]; omega)
  rw [hds] at key
  refine Calls.mono (show Calls Try.prog 43 _ w _ from key) ?_
  rintro e w' ⟨rfl, d', n, os, hp, hs, rfl⟩
  have hd' : d'.size = K.length := hp.1.trans hds
  refine ⟨rfl, d'.toList, ?_, ?_, sortWorldK_fr _ _ _ _ _ _, ?_⟩
  · have h3 := hp.2.2
    rw [Array.extract_eq_self_of_le (by omega), Array.extract_eq_self_of_le (by omega)] at h3
    simpa using h3
  · rw [List.pairwise_iff_getElem]
    intro i j hi hj hij
    have hi' : i < d'.size := by simpa using hi
    have hj' : j < d'.size := by simpa using hj
    have h3 := hs i j (Nat.zero_le _) hij (by omega)
    rw [getElem!_pos d' i hi', getElem!_pos d' j hj'] at h3
    simp only [Array.getElem_toList]
    intro hk
    rw [(hlt _ _).2 hk] at h3
    cases h3
  · have h3 := holdsK_sortWorldK_c encK 2 w blk 0 K.toArray d' n os hH hka.lt (by rw [hd', hds])
    refine ⟨fun i k hk => ?_, fun i k hk => ?_, Nat.lt_of_lt_of_le hka.lt (size_sortWorldK_c encK 2 w blk 0 n d' os)⟩
    · have hil : i < d'.size := by have := (List.getElem?_eq_some_iff.1 hk).1; simpa using this
      have h4 := (Sort.HoldsK.cell h3 (i := i) (c := 0) hil (by omega)).1
      rw [Nat.zero_add, Nat.add_zero, getElem!_pos d' i hil] at h4
      rw [h4]
      have h5 : d'[i] = k := by simpa using (List.getElem?_eq_some_iff.1 hk).2
      rw [h5]; rfl
    · have hil : i < d'.size := by have := (List.getElem?_eq_some_iff.1 hk).1; simpa using this
      have h4 := (Sort.HoldsK.cell h3 (i := i) (c := 1) hil (by omega)).1
      rw [Nat.zero_add, getElem!_pos d' i hil] at h4
      rw [h4]
      have h5 : d'[i] = k := by simpa using (List.getElem?_eq_some_iff.1 hk).2
      rw [h5]; rfl
end Go.Proofs.Ytjldocpjoiibjaa
