/- Walks: Drop, Clean, Pin, Unpin of a key's buffer, whether it is there or not. -/
import Derived.Test.YtjldocpjoiibjaaC32
namespace Go.Proofs.Ytjldocpjoiibjaa
open Go.RowKit

section
variable {w : World} {cb : Nat} {room stamp : Int} {Q : List Bf} {F : Nat → Prop} {i : Nat} {b : Bf}
set_option maxHeartbeats 2000000 in
set_option maxRecDepth 100000 in
theorem with_miss (h : CAt w cb room stamp Q F) {k : Int × Int} (hk : k ∉ Q.map Bf.key) (fv : Value) :
    Calls Try.prog 30 #[.pointer (some ⟨cb, 0, none⟩), keyV k, fv] w fun e w' => e = .returned (.int .i64 2) ∧ CAt w' cb room stamp Q F ∧ Fr F w w' := by
  obtain ⟨mb, v, E, h⟩ := h
  obtain ⟨x, y⟩ := k
  obtain ⟨w1, hw1⟩ : ∃ w1, w.alloc (.cells #[.int .i64 x, .int .i64 y] 29) = w1 := ⟨_, rfl⟩
  have hf1 : Fr (fun _ => False) w w1 := by rw [← hw1]; exact (Fr.refl _ w).alloc _
  have h1 := h.frame hf1 (fun _ _ hx => hx)
  have hbx : w1.heap[w.heap.size]? = some (.cells #[.int .i64 x, .int .i64 y] 29 (0, 0)) := by rw [← hw1]; exact blk_new rfl
  have k0 := cell_blk_some hbx (i := 0) rfl
  have k1 := cell_blk_some hbx (i := 1) rfl
  have c1 : w1.cell? ⟨cb, 1, none⟩ = some (.map (some mb)) := cell_blk_some h1.hq.blk rfl
  have lk : ∀ n, (Instr.lookup 65 (.map (some mb)) (.agg #[.int .i64 x, .int .i64 y]) false).run Try.prog (w1.drewN n) = .ok (.pointer none) (w1.drewN n) := fun n =>
    (h1.frame (Fr.of_drewN (S := fun _ => False) rfl) (fun _ _ hx => hx)).miss hk
  unfold keyV
  have H := Lib.hid h1; have HF1 := Lib.hid hf1
  clear h h1 hf1 hbx hk
  go_enter Try.func30, Try.ntmps30
  go_wp2_with fail
  go_quiet (fail)
  have hf2 : Fr (fun _ => False) w1 (w1.drewN nq) := Fr.of_drewN rfl
  have h2 := H.out.frame hf2 (fun _ _ hx => hx)
  have hf02 := HF1.out.trans hf2
  clear lk k0 k1 c1 hw1 hf2 H HF1
  generalize w1.drewN nq = w2 at h2 hf02 ⊢
  have H2 := Lib.hid h2; have HF := Lib.hid hf02
  clear h2 hf02
  go_wp2_with fail
  go_ret
  exact ⟨rfl, ⟨mb, v, E, H2.out⟩, HF.out.mono fun _ _ hx => hx.elim⟩
set_option maxHeartbeats 2000000 in
set_option maxRecDepth 100000 in
theorem with_drop (h : CAt w cb room stamp Q F) (hi : Q[i]? = some b) {er : Int} {P : World → World → Prop}
    (hd : ∀ w2, CAt w2 cb room stamp Q F → Calls Try.prog 53 #[.pointer (some ⟨cb, 0, none⟩), b.ptr] w2 fun e w' => e = .returned (.int .i64 er) ∧ P w2 w') :
    Calls Try.prog 30 #[.pointer (some ⟨cb, 0, none⟩), keyV b.key, .func (.func 53) #[.pointer (some ⟨cb, 0, none⟩)] #[]] w fun e w' => e = .returned (.int .i64 er) ∧ ∃ w2, CAt w2 cb room stamp Q F ∧ Fr (fun _ => False) w w2 ∧ P w2 w' := by
  have hg : ∀ args w, (callFunc 53 args).run Try.prog w = .ok (.enter 53 args) w := enters_of Try.func53 (by kernel_rfl) rfl
  obtain ⟨mb, v, E, h⟩ := h
  obtain ⟨w1, hw1⟩ : ∃ w1, w.alloc (.cells #[.int .i64 b.k1, .int .i64 b.k2] 29) = w1 := ⟨_, rfl⟩
  have hf1 : Fr (fun _ => False) w w1 := by rw [← hw1]; exact (Fr.refl _ w).alloc _
  have h1 := h.frame hf1 (fun _ _ hx => hx)
  have hbx : w1.heap[w.heap.size]? = some (.cells #[.int .i64 b.k1, .int .i64 b.k2] 29 (0, 0)) := by rw [← hw1]; exact blk_new rfl
  have k0 := cell_blk_some hbx (i := 0) rfl
  have k1 := cell_blk_some hbx (i := 1) rfl
  have c1 : w1.cell? ⟨cb, 1, none⟩ = some (.map (some mb)) := cell_blk_some h1.hq.blk rfl
  have lk : ∀ n, (Instr.lookup 65 (.map (some mb)) (.agg #[.int .i64 b.k1, .int .i64 b.k2]) false).run Try.prog (w1.drewN n) = .ok (.pointer (some ⟨b.blk, 0, none⟩)) (w1.drewN n) := fun n =>
    (h1.frame (Fr.of_drewN (S := fun _ => False) rfl) (fun _ _ hx => hx)).look (List.mem_of_getElem? hi)
  unfold keyV Bf.key
  have H := Lib.hid h1; have HF1 := Lib.hid hf1; have HI := Lib.hid hi; have HD := Lib.hid hd
  clear h h1 hf1 hi hd hbx
  go_enter Try.func30, Try.ntmps30
  go_wp2_with fail
  go_quiet (fail)
  have hf2 : Fr (fun _ => False) w1 (w1.drewN nq) := Fr.of_drewN rfl
  have h2 := H.out.frame hf2 (fun _ _ hx => hx)
  have hf02 := HF1.out.trans hf2
  clear lk k0 k1 c1 hw1 hf2 H HF1
  generalize w1.drewN nq = w2 at h2 hf02 ⊢
  have HB := Lib.hid (HD.out w2 ⟨mb, v, E, h2⟩)
  have H2 := Lib.hid h2; have HF := Lib.hid hf02
  clear h2 hf02 HD
  unfold Bf.ptr at HB
  go_wp2_with fail
  refine HB.out.mono ?_
  rintro e w3 ⟨rfl, hp⟩
  have HP := Lib.hid hp
  clear hp HB
  go_wp2_with fail
  go_ret
  exact ⟨rfl, w2, ⟨mb, v, E, H2.out⟩, HF.out, HP.out⟩
set_option maxHeartbeats 1000000 in
theorem cPin_w {k : Int × Int} {er : Int} {P : World → Prop} (hw : Calls Try.prog 30 #[.pointer (some ⟨cb, 0, none⟩), keyV k, .func (.func 31) #[] #[]] (w.alloc (.cells #[.int .i64 k.1, .int .i64 k.2] 29)) fun e w' => e = .returned (.int .i64 er) ∧ P w') :
    Calls Try.prog 12 #[.pointer (some ⟨cb, 0, none⟩), keyV k] w fun e w' => e = .returned (.int .i64 er) ∧ P w' := by
  obtain ⟨x, y⟩ := k
  have hbx : (w.alloc (.cells #[.int .i64 x, .int .i64 y] 29)).heap[w.heap.size]? = some (.cells #[.int .i64 x, .int .i64 y] 29 (0, 0)) := blk_new rfl
  have k0 := cell_blk_some hbx (i := 0) rfl
  have k1 := cell_blk_some hbx (i := 1) rfl
  unfold keyV at hw ⊢
  have HW := Lib.hid hw
  clear hw hbx
  go_enter Try.func12, Try.ntmps12
  go_wp2_with fail
  refine HW.out.mono ?_
  rintro e w2 ⟨rfl, hp⟩
  have HP := Lib.hid hp
  clear hp k0 k1
  go_wp2_with fail
  go_ret
  exact ⟨rfl, HP.out⟩
theorem cPin_miss (h : CAt w cb room stamp Q F) {k : Int × Int} (hk : k ∉ Q.map Bf.key) :
    Calls Try.prog 12 #[.pointer (some ⟨cb, 0, none⟩), keyV k] w fun e w' => e = .returned (.int .i64 2) ∧ CAt w' cb room stamp Q F ∧ Fr F w w' := by
  have hf : Fr (fun _ => False) w (w.alloc (.cells #[.int .i64 k.1, .int .i64 k.2] 29)) := (Fr.refl _ w).alloc _
  refine cPin_w ((with_miss (h.frame hf fun _ _ hx => hx) hk _).mono ?_)
  rintro e w' ⟨he, hc, hr⟩
  exact ⟨he, hc, (hf.mono fun _ _ hx => hx.elim).trans hr⟩
set_option maxHeartbeats 1000000 in
theorem cUnpin_w {k : Int × Int} {er : Int} {P : World → Prop} (hw : Calls Try.prog 30 #[.pointer (some ⟨cb, 0, none⟩), keyV k, .func (.func 32) #[] #[]] (w.alloc (.cells #[.int .i64 k.1, .int .i64 k.2] 29)) fun e w' => e = .returned (.int .i64 er) ∧ P w') :
    Calls Try.prog 14 #[.pointer (some ⟨cb, 0, none⟩), keyV k] w fun e w' => e = .returned (.int .i64 er) ∧ P w' := by
  obtain ⟨x, y⟩ := k
  have hbx : (w.alloc (.cells #[.int .i64 x, .int .i64 y] 29)).heap[w.heap.size]? = some (.cells #[.int .i64 x, .int .i64 y] 29 (0, 0)) := blk_new rfl
  have k0 := cell_blk_some hbx (i := 0) rfl
  have k1 := cell_blk_some hbx (i := 1) rfl
  unfold keyV at hw ⊢
  have HW := Lib.hid hw
  clear hw hbx
  go_enter Try.func14, Try.ntmps14
  go_wp2_with fail
  refine HW.out.mono ?_
  rintro e w2 ⟨rfl, hp⟩
  have HP := Lib.hid hp
  clear hp k0 k1
  go_wp2_with fail
  go_ret
  exact ⟨rfl, HP.out⟩
theorem cUnpin_miss (h : CAt w cb room stamp Q F) {k : Int × Int} (hk : k ∉ Q.map Bf.key) :
    Calls Try.prog 14 #[.pointer (some ⟨cb, 0, none⟩), keyV k] w fun e w' => e = .returned (.int .i64 2) ∧ CAt w' cb room stamp Q F ∧ Fr F w w' := by
  have hf : Fr (fun _ => False) w (w.alloc (.cells #[.int .i64 k.1, .int .i64 k.2] 29)) := (Fr.refl _ w).alloc _
  refine cUnpin_w ((with_miss (h.frame hf fun _ _ hx => hx) hk _).mono ?_)
  rintro e w' ⟨he, hc, hr⟩
  exact ⟨he, hc, (hf.mono fun _ _ hx => hx.elim).trans hr⟩
set_option maxHeartbeats 1000000 in
theorem cClean_w {k : Int × Int} {er : Int} {P : World → Prop} (hw : Calls Try.prog 30 #[.pointer (some ⟨cb, 0, none⟩), keyV k, .func (.func 33) #[] #[]] (w.alloc (.cells #[.int .i64 k.1, .int .i64 k.2] 29)) fun e w' => e = .returned (.int .i64 er) ∧ P w') :
    Calls Try.prog 15 #[.pointer (some ⟨cb, 0, none⟩), keyV k] w fun e w' => e = .returned (.int .i64 er) ∧ P w' := by
  obtain ⟨x, y⟩ := k
  have hbx : (w.alloc (.cells #[.int .i64 x, .int .i64 y] 29)).heap[w.heap.size]? = some (.cells #[.int .i64 x, .int .i64 y] 29 (0, 0)) := blk_new rfl
  have k0 := cell_blk_some hbx (i := 0) rfl
  have k1 := cell_blk_some hbx (i := 1) rfl
  unfold keyV at hw ⊢
  have HW := Lib.hid hw
  clear hw hbx
  go_enter Try.func15, Try.ntmps15
  go_wp2_with fail
  refine HW.out.mono ?_
  rintro e w2 ⟨rfl, hp⟩
  have HP := Lib.hid hp
  clear hp k0 k1
  go_wp2_with fail
  go_ret
  exact ⟨rfl, HP.out⟩
theorem cClean_miss (h : CAt w cb room stamp Q F) {k : Int × Int} (hk : k ∉ Q.map Bf.key) :
    Calls Try.prog 15 #[.pointer (some ⟨cb, 0, none⟩), keyV k] w fun e w' => e = .returned (.int .i64 2) ∧ CAt w' cb room stamp Q F ∧ Fr F w w' := by
  have hf : Fr (fun _ => False) w (w.alloc (.cells #[.int .i64 k.1, .int .i64 k.2] 29)) := (Fr.refl _ w).alloc _
  refine cClean_w ((with_miss (h.frame hf fun _ _ hx => hx) hk _).mono ?_)
  rintro e w' ⟨he, hc, hr⟩
  exact ⟨he, hc, (hf.mono fun _ _ hx => hx.elim).trans hr⟩
set_option maxHeartbeats 1000000 in
theorem cDrop_w {k : Int × Int} {er : Int} {P : World → Prop} (hw : Calls Try.prog 30 #[.pointer (some ⟨cb, 0, none⟩), keyV k, .func (.func 53) #[.pointer (some ⟨cb, 0, none⟩)] #[]] (w.alloc (.cells #[.int .i64 k.1, .int .i64 k.2] 29)) fun e w' => e = .returned (.int .i64 er) ∧ P w') :
    Calls Try.prog 39 #[.pointer (some ⟨cb, 0, none⟩), keyV k] w fun e w' => e = .returned (.int .i64 er) ∧ P w' := by
  obtain ⟨x, y⟩ := k
  have hbx : (w.alloc (.cells #[.int .i64 x, .int .i64 y] 29)).heap[w.heap.size]? = some (.cells #[.int .i64 x, .int .i64 y] 29 (0, 0)) := blk_new rfl
  have k0 := cell_blk_some hbx (i := 0) rfl
  have k1 := cell_blk_some hbx (i := 1) rfl
  unfold keyV at hw ⊢
  have HW := Lib.hid hw
  clear hw hbx
  go_enter Try.func39, Try.ntmps39
  go_wp2_with fail
  refine HW.out.mono ?_
  rintro e w2 ⟨rfl, hp⟩
  have HP := Lib.hid hp
  clear hp k0 k1
  go_wp2_with fail
  go_ret
  exact ⟨rfl, HP.out⟩
theorem cDrop_miss (h : CAt w cb room stamp Q F) {k : Int × Int} (hk : k ∉ Q.map Bf.key) :
    Calls Try.prog 39 #[.pointer (some ⟨cb, 0, none⟩), keyV k] w fun e w' => e = .returned (.int .i64 2) ∧ CAt w' cb room stamp Q F ∧ Fr F w w' := by
  have hf : Fr (fun _ => False) w (w.alloc (.cells #[.int .i64 k.1, .int .i64 k.2] 29)) := (Fr.refl _ w).alloc _
  refine cDrop_w ((with_miss (h.frame hf fun _ _ hx => hx) hk _).mono ?_)
  rintro e w' ⟨he, hc, hr⟩
  exact ⟨he, hc, (hf.mono fun _ _ hx => hx.elim).trans hr⟩
theorem unpin_zero (b : Bf) (hb : b.ok) (h0 : b.pins = 0) : Does 32 b b 22 := by
  refine ⟨rfl, rfl, hb, rfl, fun w i ⟨_, hn⟩ => ?_⟩
  unfold Bf.ptr
  have c1 := cell_blk_some hn (Bf.at_pins hb i)
  rw [h0] at c1
  have HN := Lib.hid hn; clear hn
  go_enter Try.func32, Try.ntmps32
  go_wp2_with fail
  go_ret
  exact ⟨rfl, Fr.refl _ _, HN.out⟩
theorem set_id {Q : List Bf} (hi : Q[i]? = some b) : Q.set i b = Q := by
  apply List.ext_getElem?
  intro j
  rw [List.getElem?_set]
  split
  · rename_i hj; subst hj
    rw [if_pos (List.getElem?_eq_some_iff.1 hi).1, hi]
  · rfl
theorem cUnpin_zero (h : CAt w cb room stamp Q F) (hi : Q[i]? = some b) (hb : b.ok) (h0 : b.pins = 0) :
    Calls Try.prog 14 #[.pointer (some ⟨cb, 0, none⟩), keyV b.key] w fun e w' => e = .returned (.int .i64 22) ∧ CAt w' cb room stamp Q F ∧ Fr F w w' := by
  have hf : Fr (fun _ => False) w (w.alloc (.cells #[.int .i64 b.key.1, .int .i64 b.key.2] 29)) := (Fr.refl _ w).alloc _
  refine cUnpin_w ((with_any (h.frame hf fun _ _ hx => hx) hi (unpin_zero b hb h0) (enters_of Try.func32 (by kernel_rfl) rfl)).mono ?_)
  rintro e w' ⟨he, hc, hr⟩
  rw [set_id hi] at hc
  exact ⟨he, hc, (hf.mono fun _ _ hx => hx.elim).trans hr⟩
theorem cDrop_busy (h : CAt w cb room stamp Q F) (hi : Q[i]? = some b) (h0 : 0 < b.pins) :
    Calls Try.prog 39 #[.pointer (some ⟨cb, 0, none⟩), keyV b.key] w fun e w' => e = .returned (.int .i64 16) ∧ CAt w' cb room stamp Q F ∧ Fr F w w' := by
  have hf : Fr (fun _ => False) w (w.alloc (.cells #[.int .i64 b.key.1, .int .i64 b.key.2] 29)) := (Fr.refl _ w).alloc _
  refine cDrop_w ((with_drop (er := 16) (P := fun w2 w' => w' = w2) (h.frame hf fun _ _ hx => hx) hi (fun w2 h2 => ?_)).mono ?_)
  · obtain ⟨mb, v, E, h2⟩ := h2
    exact dropB_busy (h2.hq.buf i b hi) h0
  · rintro e w' ⟨he, w2, hc, hr, rfl⟩
    exact ⟨he, hc, (hf.trans hr).mono fun _ _ hx => hx.elim⟩
theorem cDrop_any (h : CAt w cb room stamp Q F) (hi : Q[i]? = some b) (h0 : b.pins = 0) (hl : Q.length ≤ 900000) :
    Calls Try.prog 39 #[.pointer (some ⟨cb, 0, none⟩), keyV b.key] w fun e w' => e = .returned (.int .i64 0) ∧ CAt w' cb room stamp (remR Q i) F ∧ Fr F w w' := by
  have hf : Fr (fun _ => False) w (w.alloc (.cells #[.int .i64 b.key.1, .int .i64 b.key.2] 29)) := (Fr.refl _ w).alloc _
  refine cDrop_w ((with_drop (P := fun w2 w' => CAt w' cb room stamp (remR Q i) F ∧ Fr F w2 w') (h.frame hf fun _ _ hx => hx) hi (fun w2 h2 => dropB_any h2 hi h0 hl)).mono ?_)
  rintro e w' ⟨he, w2, _, hr, hc, hr2⟩
  exact ⟨he, hc, ((hf.trans hr).mono fun _ _ hx => hx.elim).trans hr2⟩
end
end Go.Proofs.Ytjldocpjoiibjaa
