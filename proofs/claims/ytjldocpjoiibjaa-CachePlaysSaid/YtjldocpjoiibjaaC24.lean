/- Walks: slices.SortFunc over buffers, at any length; slices.Clone of the queue. -/
import Derived.Test.YtjldocpjoiibjaaC23
namespace Go.Proofs.Ytjldocpjoiibjaa
open Go.RowKit

theorem insBuf_none (p : Option Addr) (cap : Nat) (fv : Value) (w : World) : Calls Try.prog 56 #[.slice p 0 cap, .int .i64 0, .int .i64 0, fv] w fun e w' => e = .returned (.tuple #[]) ∧ w' = w := by
  go_enter Try.func56, Try.ntmps56
  go_wp2_with fail
  refine wp_loop_rounds 1 ?_
  rw [rounds_succ]
  go_wp2_with fail
  go_end0
  exact ⟨rfl, rfl⟩
theorem pdqBuf_none (p : Option Addr) (cap : Nat) (lim : Int) (fv : Value) (w : World) : Calls Try.prog 50 #[.slice p 0 cap, .int .i64 0, .int .i64 0, .int .i64 lim, fv] w fun e w' => e = .returned (.tuple #[]) ∧ w' = w := by
  have hi := fun W => insBuf_none p cap fv W
  go_enter Try.func50, Try.ntmps50
  go_wp2_with fail
  refine wp_loop_rounds 1 ?_
  rw [rounds_succ]
  go_wp2_with (go_at_call 56; refine (hi _).mono ?_; rintro e w' ⟨rfl, rfl⟩)
  (try simp only [Exit.inBlock, Exit.then]); refine bodyPost_ret (results_none rfl _ _ _) rfl ?_
  exact ⟨rfl, rfl⟩
theorem sortBuf_none (p : Option Addr) (cap : Nat) (fv : Value) (w : World) : Calls Try.prog 36 #[.slice p 0 cap, fv] w fun e w' => e = .returned (.tuple #[]) ∧ w' = w := by
  have hp := fun lim W => pdqBuf_none p cap lim fv W
  have hb := fun w => Try.bits_Len 0 w (by omega) (by omega)
  go_enter Try.func36, Try.ntmps36
  go_wp2_with fail
  refine (hb _).mono ?_
  rintro e w' ⟨rfl, rfl⟩
  go_wp2_with fail
  refine (hp _ _).mono ?_
  rintro e w' ⟨rfl, rfl⟩
  go_wp2_with fail
  go_end0
  exact ⟨rfl, rfl⟩
theorem sortBuf_any {w : World} {Q : List Bf} {blk cap : Nat} (h0 : 0 < Q.length) (hl : Q.length ≤ 1000000) (hrow : ∀ i b, Q[i]? = some b → w.cell? ⟨blk, i, none⟩ = some b.ptr) (hfree : ∀ i, w.frozen? ⟨blk, i, none⟩ = false)
    (hblk : blk < w.heap.size) (hbuf : ∀ b ∈ Q, b.blk ≠ blk ∧ ∃ i, BufAt w b i) :
    Calls Try.prog 36 #[.slice (some ⟨blk, 0, none⟩) Q.length cap, .func (.func 37) #[] #[]] w fun e w' =>
      e = .returned (.tuple #[]) ∧ ∃ M : List Bf, M.Perm Q ∧ M.Pairwise (fun a b => a.stamp ≤ b.stamp) ∧ Fr (fun x => x = blk) w w' ∧ ∀ i b, M[i]? = some b → w'.cell? ⟨blk, i, none⟩ = some b.ptr := by
  have hp := fun limit (hlim : limit ≤ 1000) => pdqBuf_any (cap := cap) (limit := limit) h0 hl hlim hrow hfree hblk hbuf
  have hb := fun w => Try.bits_Len Q.length w (by omega) (by omega)
  have hbl : Lib.bitLen Q.length ≤ 1000 := by
    have := Lib.bitLen_le Q.length 62 (by omega) (by omega)
    omega
  have u1 : IntKind.u64.wrap (Q.length : Int) = (Q.length : Int) := by simp only [IntKind.wrap, IntKind.signed, IntKind.bits]; simp; omega
  rw [Int.toNat_natCast] at hb
  have HP := Lib.hid (hp _ hbl)
  clear hrow hfree hblk hbuf hp
  go_enter Try.func36, Try.ntmps36
  go_wp2_with fail
  refine (hb _).mono ?_
  rintro e w' ⟨rfl, rfl⟩
  go_wp2_with fail
  refine HP.out.mono ?_
  rintro e w' ⟨rfl, M, h1, h2, h3, h4⟩
  go_wp2_with fail
  go_end0
  exact ⟨rfl, M, h1, h2, h3, h4⟩

theorem ptrs_one (Q : List Bf) : ∀ u ∈ Q.map Bf.ptr, u.oneCell' = true := fun u hu => by
  obtain ⟨b, _, rfl⟩ := List.mem_map.1 hu
  rfl
set_option maxHeartbeats 1000000 in
set_option maxRecDepth 100000 in
/-- The queue's row, cloned. -/
theorem cloneQ_any {w : World} {Q : List Bf} {v : Value} (h : w.ownsRow 0 70 1 v Q.length (Q.map Bf.ptr)) (hl : Q.length ≤ 1000000) :
    Calls Try.prog 35 #[v] w fun e w' => ∃ v', e = .returned v' ∧ w'.ownsRow w.heap.size 70 1 v' Q.length (Q.map Bf.ptr) ∧ Below w.heap.size w w' := by
  obtain ⟨i0, hi, hz0, hz1, hz2⟩ := info_parts infoPtr
  have q22 : ∀ (w : World) (a : Option Addr) (n c n' c' : Nat), (binOp .eql 67 (.slice a n c) (.slice none n' c')).run Try.prog w = .ok (.bool a.isNone) w := fun w a n c n' c' => Lib.run_eql_slice_nil w _ _ a n c n' c' Try.underlying67
  rcases h.2 with ⟨rfl, h0⟩ | ⟨g, cap, cur, rfl, -, hg, hnc, hcm, hcs, htk⟩
  · have hQ : Q = [] := List.eq_nil_of_length_eq_zero h0
    subst hQ
    clear h
    go_enter Try.func35, Try.ntmps35
    go_wp2_with fail
    go_ret
    exact ⟨_, rfl, ⟨rfl, .inl ⟨rfl, rfl⟩⟩, Below.refl _ w⟩
  · have hown : (w.alloc (.cells #[] 70)).ownsRow w.heap.size 70 1 (.slice (some ⟨w.heap.size, 0, none⟩) 0 0) 0 [] :=
      ⟨rfl, .inr ⟨w.heap.size, 0, #[], rfl, Nat.le_refl _, blk_new rfl, Nat.le_refl _, by decide, rfl, rfl⟩⟩
    have hcc : ∀ j u, (Q.map Bf.ptr)[j]? = some u → (w.alloc (.cells #[] 70)).cell? ((⟨g, 0, none⟩ : Addr).add j) = some u := fun j u hj => by
      have hadd : (⟨g, 0, none⟩ : Addr).add j = ⟨g, j, none⟩ := by unfold Addr.add; split <;> simp_all
      rw [hadd, World.cell?_of_block (w := w) (a := ⟨g, j, none⟩) (by have := blk_lt hg; show (w.heap.push _)[_]? = _; rw [Array.getElem?_push, if_neg (by simp; omega)])]
      have hjl : j < Q.length := by have := (List.getElem?_eq_some_iff.1 hj).1; simpa using this
      rw [← htk, List.getElem?_take, if_pos (by omega), Array.getElem?_toList] at hj
      exact cell_blk_some hg hj
    have H1 := Lib.hid (ptrs_one Q); have HC := Lib.hid hcc; have HO := Lib.hid hown
    clear hcc hown h hg htk hcs
    go_enter Try.func35, Try.ntmps35
    go_wp2_with (at_builtin; refine wpList_append_own _ rfl _ _ 67 rfl w.heap.size 70 i0 (.pointer none) 1 8 Try.underlying67 hi hz0 hz1 hz2 rfl (by decide) _ _ _ rfl HO.out ⟨g, 0, none⟩ Q.length cap (Q.map Bf.ptr) rfl (by rw [List.length_map]; omega) HC.out H1.out ?c3 ?c4 ?c5 ?_)
    case c3 => unfold maxLen; omega
    case c4 => omega
    case c5 => simp
    intro v' w1 hown2 hgr2 _
    have hb : Below w.heap.size w w1 := (below_alloc (Below.refl _ w) (Nat.le_refl _) (Obj.cells #[] 70)).grown hgr2 (by simp) (fun k hk => (HO.out.lt k hk).1)
    have HOW := Lib.hid hown2
    clear hown2 hgr2
    go_wp2_with fail
    go_ret
    exact ⟨v', rfl, HOW.out, hb⟩
end Go.Proofs.Ytjldocpjoiibjaa
