/- Walk of the cache's Get. -/
import Derived.Test.YtjldocpjoiibjaaC11
namespace Go.Proofs.Ytjldocpjoiibjaa
open Go.RowKit

theorem infoByte : (Try.prog.info? 5).map (fun i => (i.zero, i.size, i.bytes)) = some (some (.int .u8 0), 1, 1) := by kernel_rfl

set_option maxHeartbeats 1000000 in
set_option maxRecDepth 100000 in
/-- A block's bytes, cloned. -/
theorem cloneB_any {w : World} {g o c : Nat} {l : List Value} (hl : l.length = 64) (h1 : ∀ u ∈ l, u.oneCell' = true) (hc : ∀ j u, l[j]? = some u → w.cell? ⟨g, o + j, none⟩ = some u) :
    Calls Try.prog 34 #[.slice (some ⟨g, o, none⟩) 64 c] w fun e w' => ∃ v', e = .returned v' ∧ w'.ownsRow w.heap.size 5 1 v' 64 l ∧ Below w.heap.size w w' := by
  obtain ⟨i0, hi, hz0, hz1, hz2⟩ := info_parts infoByte
  have q22 : ∀ (w : World) (a : Option Addr) (n c n' c' : Nat), (binOp .eql 31 (.slice a n c) (.slice none n' c')).run Try.prog w = .ok (.bool a.isNone) w := fun w a n c n' c' => Lib.run_eql_slice_nil w _ _ a n c n' c' Try.underlying31
  have hown : (w.alloc (.cells #[] 5)).ownsRow w.heap.size 5 1 (.slice (some ⟨w.heap.size, 0, none⟩) 0 0) 0 [] :=
    ⟨rfl, .inr ⟨w.heap.size, 0, #[], rfl, Nat.le_refl _, blk_new rfl, Nat.le_refl _, by decide, rfl, rfl⟩⟩
  have hcc : ∀ j u, l[j]? = some u → (w.alloc (.cells #[] 5)).cell? ((⟨g, o, none⟩ : Addr).add j) = some u := fun j u hj => by
    have hadd : (⟨g, o, none⟩ : Addr).add j = ⟨g, o + j, none⟩ := by unfold Addr.add; split <;> simp_all
    rw [hadd]
    have h2 := hc j u hj
    have hlt : g < w.heap.size := by
      unfold World.cell? at h2
      cases hg : w.heap[g]? with
      | none => simp [hg] at h2
      | some ob => exact blk_lt hg
    rw [World.cell?_of_block (w := w) (a := ⟨g, o + j, none⟩) (by show (w.heap.push _)[_]? = _; rw [Array.getElem?_push, if_neg (by simp; omega)])]
    exact h2
  have HC := Lib.hid hcc; have H1 := Lib.hid h1; have HO := Lib.hid hown
  clear hc hcc h1 hown
  go_enter Try.func34, Try.ntmps34
  go_wp2_with (at_builtin; refine wpList_append_own _ rfl _ _ 31 rfl w.heap.size 5 i0 (.int .u8 0) 1 1 Try.underlying31 hi hz0 hz1 hz2 rfl (by decide) _ _ _ rfl HO.out ⟨g, o, none⟩ 64 c l rfl (by rw [hl]) HC.out H1.out ?c3 ?c4 ?c5 ?_)
  case c3 => unfold maxLen; omega
  case c4 => omega
  case c5 => simp
  intro v' w1 hown2 hgr2 _
  have hb : Below w.heap.size w w1 := (below_alloc (Below.refl _ w) (Nat.le_refl _) (Obj.cells #[] 5)).grown hgr2 (by simp) (fun k hk => (HO.out.lt k hk).1)
  have HOW := Lib.hid hown2
  clear hown2 hgr2
  go_wp2_with fail
  go_ret
  exact ⟨v', rfl, HOW.out, hb⟩

theorem kidQ_lt {Q : List Bf} {k n : Nat} (h : ¬ n ≤ 2 * k + 1) : kidQ Q k n < n := by
  unfold kidQ
  split
  · rename_i hc
    rw [Bool.and_eq_true, decide_eq_true_eq] at hc
    exact hc.1
  · omega
theorem downQ_perm : ∀ (f : Nat) (Q : List Bf) (k n : Nat), n ≤ Q.length → (downQ f Q k n).1.Perm Q
  | 0, Q, k, n, _ => .refl _
  | f + 1, Q, k, n, hn => by
    rw [downQ]
    split
    · exact .refl _
    · rename_i hk
      split
      · have hl := kidQ_lt (Q := Q) hk
        exact (downQ_perm f _ _ _ (by rw [swp_length]; exact hn)).trans (swp_perm (by omega) (by omega))
      · exact .refl _
theorem fixQ_perm {Q : List Bf} {i : Nat} (hi : i < Q.length) : (fixQ Q i).Perm Q := by
  have h1 := downQ_perm Q.length Q i Q.length (Nat.le_refl _)
  unfold fixQ
  split
  · exact h1
  · exact (upQ_perm _ _ _ (by rw [h1.length_eq]; exact hi)).trans h1
theorem useQ_perm {Q : List Bf} {i : Nat} {b : Bf} (hi : Q[i]? = some b) (s : Int) : (useQ Q i s).Perm (Q.set i (b.setStamp s)) := by
  unfold useQ; rw [getD_of hi]
  exact fixQ_perm (by rw [List.length_set]; exact (List.getElem?_eq_some_iff.1 hi).1)
theorem Bf.at_data {b : Bf} (_ : b.ok) (i : Int) {j : Nat} {u : Value} (hj : b.data[j]? = some u) : (b.cells i)[2 + j]? = some u := by
  have hjl : j < b.data.length := (List.getElem?_eq_some_iff.1 hj).1
  unfold Bf.cells
  rw [List.getElem?_toArray, show 2 + j = j + 1 + 1 by omega, List.getElem?_cons_succ, List.getElem?_cons_succ, List.getElem?_append_left hjl]
  exact hj
theorem CIn.data {w : World} {cb : Nat} {room stamp : Int} {Q : List Bf} {F : Nat → Prop} {mb : Nat} {v : Value} {E : List ((Int × Int) × Value)} (h : CIn w cb room stamp Q F mb v E) {b : Bf} (hb : b ∈ Q) {j : Nat} {u : Value} (hj : b.data[j]? = some u) :
    w.cell? ⟨b.blk, 2 + j, none⟩ = some u := by
  obtain ⟨i, hi⟩ := List.mem_iff_getElem?.1 hb
  obtain ⟨h1, h2⟩ := h.hq.buf i b hi
  exact cell_blk_some h2 (Bf.at_data h1 _ hj)

section
variable {w : World} {cb : Nat} {room stamp : Int} {Q : List Bf} {F : Nat → Prop} {i : Nat} {b : Bf}
set_option maxHeartbeats 1000000 in
set_option maxRecDepth 100000 in
theorem cGet_miss (h : CAt w cb room stamp Q F) {k : Int × Int} (hk : k ∉ Q.map Bf.key) :
    Calls Try.prog 16 #[.pointer (some ⟨cb, 0, none⟩), keyV k] w fun e w' => e = .returned (.tuple #[.slice none 0 0, .bool false]) ∧ CAt w' cb room stamp Q F ∧ Fr F w w' := by
  obtain ⟨mb, v, E, h⟩ := h
  obtain ⟨x, y⟩ := k
  obtain ⟨w1, hw1⟩ : ∃ w1, w.alloc (.cells #[.int .i64 x, .int .i64 y] 29) = w1 := ⟨_, rfl⟩
  have hf1 : Fr (fun _ => False) w w1 := by rw [← hw1]; exact (Fr.refl _ w).alloc _
  have h1 := h.frame hf1 (fun _ _ hx => hx)
  have hbx : w1.heap[w.heap.size]? = some (.cells #[.int .i64 x, .int .i64 y] 29 (0, 0)) := by rw [← hw1]; exact blk_new rfl
  have k0 := cell_blk_some hbx (i := 0) rfl
  have k1 := cell_blk_some hbx (i := 1) rfl
  have c1 : w1.cell? ⟨cb, 1, none⟩ = some (.map (some mb)) := cell_blk_some h1.hq.blk rfl
  have lk : ∀ n, (Instr.lookup 65 (.map (some mb)) (.agg #[.int .i64 x, .int .i64 y]) false).run Try.prog (w1.drewN n) = .ok (.pointer none) (w1.drewN n) := fun n =>
    (h1.frame (Fr.of_drewN (S := fun _ => False) rfl) (fun _ _ hx => hx)).miss hk
  unfold keyV
  have H := Lib.hid h1; have HF1 := Lib.hid hf1
  clear h h1 hf1 hbx hk
  go_enter Try.func16, Try.ntmps16
  go_wp2_with fail
  go_quiet (fail)
  have hf2 : Fr (fun _ => False) w1 (w1.drewN nq) := Fr.of_drewN rfl
  have h2 := H.out.frame hf2 (fun _ _ hx => hx)
  have hf02 := HF1.out.trans hf2
  clear lk k0 k1 c1 hw1 hf2 H HF1
  generalize w1.drewN nq = w2 at h2 hf02 ⊢
  have H2 := Lib.hid h2; have HF := Lib.hid hf02
  clear h2 hf02
  go_wp2_with fail
  go_ret2
  exact ⟨rfl, ⟨mb, v, E, H2.out⟩, HF.out.mono fun _ _ hx => hx.elim⟩

set_option maxHeartbeats 1000000 in
set_option maxRecDepth 100000 in
theorem cGet_any (h : CAt w cb room stamp Q F) (hi : Q[i]? = some b) (hs0 : 0 ≤ stamp) (hs1 : stamp ≤ 4000000000000000000) (hl : Q.length ≤ 900000) :
    Calls Try.prog 16 #[.pointer (some ⟨cb, 0, none⟩), keyV b.key] w fun e w' => ∃ v', e = .returned (.tuple #[v', .bool true]) ∧ w'.ownsRow w.heap.size 5 1 v' 64 b.data ∧ CAt w' cb room (stamp + 1) (useQ Q i (stamp + 1)) F ∧ Fr F w w' := by
  obtain ⟨mb, v, E, h⟩ := h
  obtain ⟨w1, hw1⟩ : ∃ w1, w.alloc (.cells #[.int .i64 b.k1, .int .i64 b.k2] 29) = w1 := ⟨_, rfl⟩
  have hf1 : Fr (fun _ => False) w w1 := by rw [← hw1]; exact (Fr.refl _ w).alloc _
  have h1 := h.frame hf1 (fun _ _ hx => hx)
  have hbx : w1.heap[w.heap.size]? = some (.cells #[.int .i64 b.k1, .int .i64 b.k2] 29 (0, 0)) := by rw [← hw1]; exact blk_new rfl
  have k0 := cell_blk_some hbx (i := 0) rfl
  have k1 := cell_blk_some hbx (i := 1) rfl
  have c1 : w1.cell? ⟨cb, 1, none⟩ = some (.map (some mb)) := cell_blk_some h1.hq.blk rfl
  have lk : ∀ n, (Instr.lookup 65 (.map (some mb)) (.agg #[.int .i64 b.k1, .int .i64 b.k2]) false).run Try.prog (w1.drewN n) = .ok (.pointer (some ⟨b.blk, 0, none⟩)) (w1.drewN n) := fun n =>
    (h1.frame (Fr.of_drewN (S := fun _ => False) rfl) (fun _ _ hx => hx)).look (List.mem_of_getElem? hi)
  unfold keyV Bf.key
  have H := Lib.hid h1; have HF1 := Lib.hid hf1; have HI := Lib.hid hi
  clear h h1 hf1 hbx hi
  go_enter Try.func16, Try.ntmps16
  go_wp2_with fail
  go_quiet (fail)
  have hf2 : Fr (fun _ => False) w1 (w1.drewN nq) := Fr.of_drewN rfl
  have h2 := H.out.frame hf2 (fun _ _ hx => hx)
  have hf02 := HF1.out.trans hf2
  clear lk k0 k1 c1 hw1 hf2 H HF1
  generalize w1.drewN nq = w2 at h2 hf02 ⊢
  have hus := use_any h2 HI.out hs0 hs1 hl
  unfold Bf.ptr at hus
  have HUS := Lib.hid hus
  have H2 := Lib.hid h2; have HF := Lib.hid hf02
  clear h2 hf02 hus
  go_wp2_with fail
  refine HUS.out.mono ?_
  rintro e w3 ⟨rfl, h3, hf3⟩
  have hmem : b.setStamp (stamp + 1) ∈ useQ Q i (stamp + 1) := (useQ_perm HI.out _).mem_iff.2 (List.mem_iff_getElem?.2 ⟨i, by rw [List.getElem?_set, if_pos rfl, if_pos (List.getElem?_eq_some_iff.1 HI.out).1]⟩)
  have hdl : b.data.length = 64 := (H2.out.hq.buf i b HI.out).1
  have HCL := Lib.hid (cloneB_any (w := w3) (g := b.blk) (o := 2) (c := 64) (l := b.data) hdl (H2.out.fine b (List.mem_of_getElem? HI.out)) (fun j u hj => h3.data hmem hj))
  have H3 := Lib.hid h3; have HF3 := Lib.hid hf3
  clear h3 hf3 hmem HUS
  go_wp2_with fail
  refine HCL.out.mono ?_
  rintro e w4 ⟨v', rfl, ho4, hb4⟩
  have HO4 := Lib.hid ho4; have HB4 := Lib.hid hb4
  clear ho4 hb4 HCL
  go_wp2_with fail
  go_ret2
  have hf4 : Fr (fun _ => False) w3 w4 := Fr.below HB4.out
  have hfr := (HF.out.mono (S' := F) fun _ _ hx => hx.elim).trans HF3.out
  exact ⟨v', rfl, own_mono HO4.out hfr.size, ⟨mb, v, E, H3.out.frame hf4 (fun _ _ hx => hx)⟩, hfr.trans' hf4 fun _ _ hx => hx.elim⟩
end
end Go.Proofs.Ytjldocpjoiibjaa
