/- Walks of the sort of a slice of buffers: the closure, slices.SortFunc. -/
import Derived.Test.YtjldocpjoiibjaaC22
import Derived.Test.YtjldocpjoiibjaaShelf
import Derived.Test.YtjldocpjoiibjaaShelfG
import Derived.Shelf.SlSortCmp.Whole1
namespace Go.Proofs.Ytjldocpjoiibjaa
open Go.RowKit

theorem compare_any (x y : Int) (w : World) : Calls Try.prog 38 #[.int .i64 x, .int .i64 y] w fun e w' => e = .returned (.int .i64 (Lib.compareInt x y)) ∧ w' = w := by
  have hn := fun (z : Int) w => Try.cmp_isNaN_int2 z w
  have h3 : (decide (x < y) = true ∧ Lib.compareInt x y = -1) ∨ (decide (x < y) = false ∧ decide (y < x) = false ∧ Lib.compareInt x y = 0) ∨ (decide (x < y) = false ∧ decide (y < x) = true ∧ Lib.compareInt x y = 1) := by
    unfold Lib.compareInt
    by_cases h1 : x < y
    · exact .inl ⟨decide_eq_true h1, by rw [if_pos h1]⟩
    · by_cases h2 : y < x
      · exact .inr (.inr ⟨decide_eq_false h1, decide_eq_true h2, by rw [if_neg h1, if_pos h2]⟩)
      · exact .inr (.inl ⟨decide_eq_false h1, decide_eq_false h2, by rw [if_neg h1, if_neg h2]⟩)
  generalize Lib.compareInt x y = c at h3 ⊢
  go_enter Try.func38, Try.ntmps38
  rcases h3 with ⟨q1, rfl⟩ | ⟨q1, q2, rfl⟩ | ⟨q1, q2, rfl⟩
  all_goals
    go_wp2_with (go_at_call 52; refine (hn _ _).mono ?_; rintro e w' ⟨rfl, rfl⟩)
    go_ret
    exact ⟨rfl, rfl⟩
theorem cmpBuf_any {W : World} {x y : Bf} {i j : Int} (hx : BufAt W x i) (hy : BufAt W y j) : Calls Try.prog 37 #[x.ptr, y.ptr] W fun e w' => e = .returned (.int .i64 (Lib.compareInt x.stamp y.stamp)) ∧ ∃ q, w' = W.drewN q := by
  have hc := fun w => compare_any x.stamp y.stamp w
  have c1 := cell_blk_some hx.2 (Bf.at_stamp hx.1 i)
  have c2 := cell_blk_some hy.2 (Bf.at_stamp hy.1 j)
  unfold Bf.ptr
  clear hx hy
  generalize Lib.compareInt x.stamp y.stamp = c at hc ⊢
  go_enter Try.func37, Try.ntmps37
  go_wp2_with fail
  go_quiet ((go_at_call 38; exact Calls.quiet_of_same (hc _)))
  go_wp2_with fail
  go_ret
  exact ⟨rfl, _, rfl⟩

section
variable {α : Type} [Inhabited α]
theorem sortWorld_fr (enc : α → Value) (w : World) (blk off m : Nat) (dk : Array α) (os : Array Obj) : Fr (fun x => x = blk) w (sortWorld enc w blk off m dk os) := by
  refine ⟨rfl, rfl, rfl, ?_, fun b hb hne => ?_⟩
  · unfold sortWorld; rw [Sort.size_grow, size_putRow]; exact Nat.le_add_right _ _
  · unfold sortWorld
    rw [Sort.heap_grow_old _ _ (by rw [size_putRow]; exact hb)]
    show (w.heap.modify blk _)[b]? = _
    rw [Array.getElem?_modify, if_neg (fun e => hne e.symm)]
end
theorem compare_lt (x y : Int) : decide (Lib.compareInt x y < 0) = decide (x < y) := by
  unfold Lib.compareInt
  by_cases h1 : x < y
  · simp [h1]
  · by_cases h2 : y < x <;> simp [h1, h2]

set_option maxHeartbeats 1000000 in
set_option maxRecDepth 100000 in
/-- The sort of a row of buffers (at least one) by their stamps. -/
theorem pdqBuf_any {w : World} {Q : List Bf} {blk cap limit : Nat} (h0 : 0 < Q.length) (hl : Q.length ≤ 1000000) (hlim : limit ≤ 1000) (hrow : ∀ i b, Q[i]? = some b → w.cell? ⟨blk, i, none⟩ = some b.ptr) (hfree : ∀ i, w.frozen? ⟨blk, i, none⟩ = false)
    (hblk : blk < w.heap.size) (hbuf : ∀ b ∈ Q, b.blk ≠ blk ∧ ∃ i, BufAt w b i) :
    Calls Try.prog 50 #[.slice (some ⟨blk, 0, none⟩) Q.length cap, .int .i64 0, .int .i64 Q.length, .int .i64 limit, .func (.func 37) #[] #[]] w fun e w' =>
      e = .returned (.tuple #[]) ∧ ∃ M : List Bf, M.Perm Q ∧ M.Pairwise (fun a b => a.stamp ≤ b.stamp) ∧ Fr (fun x => x = blk) w w' ∧ ∀ i b, M[i]? = some b → w'.cell? ⟨blk, i, none⟩ = some b.ptr := by
  haveI : Inhabited { b : Bf // b ∈ Q } := ⟨⟨Q[0], List.getElem_mem h0⟩⟩
  let enc : { b : Bf // b ∈ Q } → Value := fun b => b.val.ptr
  let cf : { b : Bf // b ∈ Q } → { b : Bf // b ∈ Q } → Int := fun x y => Lib.compareInt x.val.stamp y.val.stamp
  have hlt : ∀ x y, ltOf cf x y = decide (x.val.stamp < y.val.stamp) := fun x y => compare_lt _ _
  have hO : Sort.SWO (ltOf cf) := ⟨fun x => by rw [hlt]; simp, fun x y z h1 h2 => by rw [hlt] at *; simp at *; omega, fun x y z h1 h2 => by rw [hlt] at *; simp at *; omega⟩
  have hds : Q.attach.toArray.size = Q.length := by simp
  have hget : ∀ j, (hj : j < Q.length) → Q.attach.toArray[j]! = ⟨Q[j], List.getElem_mem hj⟩ := fun j hj => by
    rw [getElem!_pos _ j (by rw [hds]; exact hj)]; simp
  have hH : Sort.Holds enc w blk 0 Q.attach.toArray := fun j hj => by
    rw [hds] at hj
    rw [hget j hj, Nat.zero_add]
    exact ⟨hrow j _ (List.getElem?_eq_getElem hj), hfree j⟩
  have hcmp : CmpLays1 Try.prog 37 #[] enc cf blk 0 Q.attach.toArray.size w := fun m os dk _ x y => by
    have hf := sortWorld_fr enc w blk 0 m dk os
    have hb : ∀ z : { b : Bf // b ∈ Q }, ∃ i, BufAt (sortWorld enc w blk 0 m dk os) z.val i := fun z => by
      obtain ⟨h1, i, h2, h3⟩ := hbuf z.val z.property
      exact ⟨i, h2, by rw [hf.block _ (blk_lt h3) h1]; exact h3⟩
    obtain ⟨i, hi⟩ := hb x
    obtain ⟨j, hj⟩ := hb y
    exact (cmpBuf_any hi hj).mono fun e w' ⟨he, q, hq⟩ => ⟨he, q, #[], by rw [Sort.grow_empty]; exact hq⟩
  have eg : ∀ args w, (callFunc 37 args).run Try.prog w = .ok (.enter 37 args) w := enters_of Try.func37 (by kernel_rfl) rfl
  have key := Any.pdqsortCmpFunc_all Try.pdqBuf enc cf 37 #[] hO blk 0 cap Q.attach.toArray w eg hcmp ⟨fun _ => rfl, hH, hblk⟩ (Q.length + 1) 0 Q.length limit Q.attach.toArray w (by omega) rfl (SW.start hH) (Nat.zero_le _) (by rw [hds]; exact Nat.le_refl _) (by rw [hds]; omega) (by omega) (.inl rfl)
  rw [hds] at key
  refine Calls.mono (show Calls Try.prog 50 _ w _ from key) ?_
  rintro e w' ⟨rfl, hsw⟩
  obtain ⟨hp, hs⟩ := Sort.pdq_sorts (ltOf cf) hO Q.attach.toArray 0 Q.length limit true true (Nat.zero_le _) (by rw [hds]; exact Nat.le_refl _) (.inl rfl)
  generalize Sort.pdq (ltOf cf) Q.attach.toArray 0 Q.length limit true true = d' at hsw hp hs
  have hd' : d'.size = Q.length := hp.1.trans hds
  refine ⟨rfl, d'.toList.map (·.val), ?_, ?_, ?_, ?_⟩
  · have h3 := hp.2.2
    rw [Array.extract_eq_self_of_le (by omega), Array.extract_eq_self_of_le (by omega)] at h3
    have h4 := h3.map (fun b : { b : Bf // b ∈ Q } => b.val)
    simpa using h4
  · rw [List.pairwise_iff_getElem]
    intro i j hi hj hij
    have hi' : i < d'.size := by simpa using hi
    have hj' : j < d'.size := by simpa using hj
    have h3 := hs i j (Nat.zero_le _) hij (by omega)
    rw [hlt, getElem!_pos d' i hi', getElem!_pos d' j hj'] at h3
    simp only [List.getElem_map, Array.getElem_toList]
    simpa using h3
  · obtain ⟨n, os, rfl⟩ := hsw
    exact sortWorld_fr _ _ _ _ _ _ _
  · intro i b hi
    have h3 := hsw.holds hblk hH (by rw [hd', hds])
    rw [List.getElem?_map] at hi
    cases hq : d'.toList[i]? with
    | none => rw [hq] at hi; cases hi
    | some z =>
      rw [hq] at hi
      obtain rfl := Option.some.inj hi
      have hil : i < d'.size := by
        have := (List.getElem?_eq_some_iff.1 hq).1
        simpa using this
      have h4 := (h3 i hil).1
      rw [Nat.zero_add, getElem!_pos d' i hil] at h4
      rw [h4]
      have : d'[i] = z := by
        have := (List.getElem?_eq_some_iff.1 hq).2
        simpa using this
      rw [this]
end Go.Proofs.Ytjldocpjoiibjaa
