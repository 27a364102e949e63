/- Walks of what is done with one buffer: look-up, Clean, Pin, Unpin. -/
import Derived.Test.YtjldocpjoiibjaaC10
import Derived.Deep.WholeRow
namespace Go.Proofs.Ytjldocpjoiibjaa
open Go.RowKit

theorem zero_ptr (w : World) : (zeroValue 70).run Try.prog w = .ok (.pointer none) w := (zero_of_info (P := Try.prog) (t := 70) (v := .pointer none) (n := 1) (by kernel_rfl)).1 w
theorem CIn.ekeys {w : World} {cb : Nat} {room stamp : Int} {Q : List Bf} {F : Nat → Prop} {mb : Nat} {v : Value} {E : List ((Int × Int) × Value)} (h : CIn w cb room stamp Q F mb v E) : (E.map (·.1)).Perm (Q.map Bf.key) := by
  have := h.link.map (·.1)
  rw [List.map_map] at this
  exact this
theorem CIn.look {w : World} {cb : Nat} {room stamp : Int} {Q : List Bf} {F : Nat → Prop} {mb : Nat} {v : Value} {E : List ((Int × Int) × Value)} (h : CIn w cb room stamp Q F mb v E) {b : Bf} (hb : b ∈ Q) :
    (Instr.lookup 65 (.map (some mb)) (keyV b.key) false).run Try.prog w = .ok b.ptr w := by
  have hm : (b.key, b.ptr) ∈ E := h.link.mem_iff.2 (List.mem_map.2 ⟨b, hb, rfl⟩)
  obtain ⟨j, h1, _⟩ := findE_some (i := 0) (h.ekeys.nodup_iff.2 h.keys) hm
  have := run_lookup_ents Try.underlying65 (zero_ptr w) h.mp b.key false
  rw [h1] at this
  exact this
theorem CIn.miss {w : World} {cb : Nat} {room stamp : Int} {Q : List Bf} {F : Nat → Prop} {mb : Nat} {v : Value} {E : List ((Int × Int) × Value)} (h : CIn w cb room stamp Q F mb v E) {k : Int × Int} (hk : k ∉ Q.map Bf.key) :
    (Instr.lookup 65 (.map (some mb)) (keyV k) false).run Try.prog w = .ok (.pointer none) w := by
  have hm : findE k E 0 = none := findE_none (fun hx => hk (h.ekeys.mem_iff.1 hx))
  have := run_lookup_ents Try.underlying65 (zero_ptr w) h.mp k false
  rw [hm] at this
  exact this
theorem CIn.frame {w w' : World} {cb : Nat} {room stamp : Int} {Q : List Bf} {F S : Nat → Prop} {mb : Nat} {v : Value} {E : List ((Int × Int) × Value)} (h : CIn w cb room stamp Q F mb v E) (hf : Fr S w w') (hs : ∀ x, F x → ¬ S x) : CIn w' cb room stamp Q F mb v E :=
  ⟨h.hq.frame hf (fun g hg => hs _ (h.f3 g hg)) (fun x hx => hs _ (h.f4 x hx)) (by rw [hf.block cb (h.lt _ h.f1) (hs _ h.f1)]; exact h.hq.blk) h.hq.ptr,
    h.mp.frame hf (hs _ h.f2), h.link, h.keys, h.fine, h.mo1, h.mo2, h.mo3, h.f1, h.f2, h.f3, h.f4, fun x hx => Nat.lt_of_lt_of_le (h.lt x hx) hf.size⟩
/-- One buffer has turned, but for its key. -/
theorem CIn.upd {w w' : World} {cb : Nat} {room stamp : Int} {Q : List Bf} {F : Nat → Prop} {mb : Nat} {v : Value} {E : List ((Int × Int) × Value)} (h : CIn w cb room stamp Q F mb v E) {i : Nat} {b b' : Bf} (hi : Q[i]? = some b)
    (hb : b'.blk = b.blk) (hk : b'.key = b.key) (hok : b'.ok) (hfi : ∀ u ∈ b'.data, u.oneCell' = true) (hf : Fr (fun x => x = b.blk) w w') (hn : w'.heap[b.blk]? = some (.cells (b'.cells i) 74 (0, 0))) :
    CIn w' cb room stamp (Q.set i b') F mb v E := by
  have hm : b.blk ∈ Q.map (·.blk) := List.mem_map.2 ⟨b, List.mem_of_getElem? hi, rfl⟩
  have hbc : cb ≠ b.blk := fun e => h.hq.off1 (e ▸ hm)
  have hmb : (Q.set i b').map (·.blk) = Q.map (·.blk) := map_set_same (·.blk) Q i b b' hi hb
  have hkp : (Q.set i b').map (fun b => (b.key, b.ptr)) = Q.map (fun b => (b.key, b.ptr)) := map_set_same (fun b => (b.key, b.ptr)) Q i b b' hi (by simp only [hk, Bf.ptr, hb])
  have hkk : (Q.set i b').map Bf.key = Q.map Bf.key := map_set_same Bf.key Q i b b' hi hk
  refine ⟨h.hq.upd hi hb hok (hf.mono fun x _ hx => .inl hx) hn (by rw [hf.block cb (h.lt _ h.f1) hbc]; exact h.hq.blk) h.hq.ptr, h.mp.frame hf (fun e => h.mo3 (e ▸ hm)), by rw [hkp]; exact h.link, by rw [hkk]; exact h.keys, ?_,
    h.mo1, h.mo2, by rw [hmb]; exact h.mo3, h.f1, h.f2, h.f3, by rw [hmb]; exact h.f4, fun x hx => Nat.lt_of_lt_of_le (h.lt x hx) hf.size⟩
  intro x hx
  rcases List.mem_or_eq_of_mem_set hx with hx | rfl
  · exact h.fine x hx
  · exact hfi

def Bf.setPins (b : Bf) (n : Int) : Bf := { b with pins := n }
def Bf.setDirty (b : Bf) (d : Bool) : Bf := { b with dirty := d }
theorem Bf.pinsCells {b : Bf} (h : b.ok) (i n : Int) : (b.cells i).setIfInBounds 67 (.int .i64 n) = (b.setPins n).cells i := by
  unfold Bf.cells Bf.setPins
  rw [List.setIfInBounds_toArray]
  congr 1
  show _ :: _ :: ((b.data ++ _).set 65 _) = _
  rw [set_tail _ _ 65 h 1 rfl]; rfl
theorem Bf.dirtyCells {b : Bf} (h : b.ok) (i : Int) (d : Bool) : (b.cells i).setIfInBounds 66 (.bool d) = (b.setDirty d).cells i := by
  unfold Bf.cells Bf.setDirty
  rw [List.setIfInBounds_toArray]
  congr 1
  show _ :: _ :: ((b.data ++ _).set 64 _) = _
  rw [set_tail _ _ 64 h 0 rfl]; rfl

/-- What a function does with a buffer in its place: its error, and the buffer behind it. -/
def Does (g : Nat) (b b' : Bf) (e : Int) : Prop := b'.blk = b.blk ∧ b'.key = b.key ∧ b'.ok ∧ b'.data = b.data ∧ ∀ (w : World) (i : Nat), BufAt w b i →
  Calls Try.prog g #[b.ptr] w fun x w' => x = .returned (.int .i64 e) ∧ Fr (fun y => y = b.blk) w w' ∧ w'.heap[b.blk]? = some (.cells (b'.cells i) 74 (0, 0))
theorem pin_does (b : Bf) (hb : b.ok) (h0 : 0 ≤ b.pins) (h1 : b.pins ≤ 1000000000) : Does 31 b (b.setPins (b.pins + 1)) 0 := by
  refine ⟨rfl, rfl, hb, rfl, fun w i ⟨_, hn⟩ => ?_⟩
  unfold Bf.ptr
  have c1 := cell_blk_some hn (Bf.at_pins hb i)
  have f1 := free_blk (i := 67) hn
  have s1 : IntKind.i64.wrap (b.pins + 1) = b.pins + 1 := IntWalk.i64_in _ (by omega)
  have HN := Lib.hid hn; clear hn
  go_enter Try.func31, Try.ntmps31
  go_wp2_with fail
  go_ret
  refine ⟨rfl, Fr.setCell (S := fun y => y = b.blk) (Fr.refl _ w) ⟨b.blk, 67, none⟩ rfl _, ?_⟩
  have := blk_set (i := 67) HN.out (.int .i64 (b.pins + 1))
  rw [Bf.pinsCells hb] at this
  exact this
theorem unpin_does (b : Bf) (hb : b.ok) (h0 : 0 < b.pins) (h1 : b.pins ≤ 1000000000) : Does 32 b (b.setPins (b.pins - 1)) 0 := by
  refine ⟨rfl, rfl, hb, rfl, fun w i ⟨_, hn⟩ => ?_⟩
  unfold Bf.ptr
  have c1 := cell_blk_some hn (Bf.at_pins hb i)
  have f1 := free_blk (i := 67) hn
  have s1 : IntKind.i64.wrap (b.pins - 1) = b.pins - 1 := IntWalk.i64_in _ (by omega)
  have q1 : (b.pins == 0) = false := by rw [beq_eq_false_iff_ne]; omega
  have HN := Lib.hid hn; clear hn
  go_enter Try.func32, Try.ntmps32
  go_wp2_with fail
  go_ret
  refine ⟨rfl, Fr.setCell (S := fun y => y = b.blk) (Fr.refl _ w) ⟨b.blk, 67, none⟩ rfl _, ?_⟩
  have := blk_set (i := 67) HN.out (.int .i64 (b.pins - 1))
  rw [Bf.pinsCells hb] at this
  exact this
theorem clean_does (b : Bf) (hb : b.ok) : Does 33 b (b.setDirty false) 0 := by
  refine ⟨rfl, rfl, hb, rfl, fun w i ⟨_, hn⟩ => ?_⟩
  unfold Bf.ptr
  have c1 := cell_blk_some hn (Bf.at_dirty hb i)
  have f1 := free_blk (i := 66) hn
  have HN := Lib.hid hn; clear hn
  go_enter Try.func33, Try.ntmps33
  go_wp2_with fail
  go_ret
  refine ⟨rfl, Fr.setCell (S := fun y => y = b.blk) (Fr.refl _ w) ⟨b.blk, 66, none⟩ rfl _, ?_⟩
  have := blk_set (i := 66) HN.out (.bool false)
  rw [Bf.dirtyCells hb] at this
  exact this

set_option maxHeartbeats 2000000 in
theorem with_any {w : World} {cb : Nat} {room stamp : Int} {Q : List Bf} {F : Nat → Prop} (h : CAt w cb room stamp Q F) {i : Nat} {b b' : Bf} (hi : Q[i]? = some b) {g : Nat} {er : Int} (hd : Does g b b' er)
    (hg : ∀ args w, (callFunc g args).run Try.prog w = .ok (.enter g args) w) :
    Calls Try.prog 30 #[.pointer (some ⟨cb, 0, none⟩), keyV b.key, .func (.func g) #[] #[]] w fun e w' => e = .returned (.int .i64 er) ∧ CAt w' cb room stamp (Q.set i b') F ∧ Fr F w w' := by
  obtain ⟨mb, v, E, h⟩ := h
  obtain ⟨w1, hw1⟩ : ∃ w1, w.alloc (.cells #[.int .i64 b.k1, .int .i64 b.k2] 29) = w1 := ⟨_, rfl⟩
  have hf1 : Fr (fun _ => False) w w1 := by rw [← hw1]; exact (Fr.refl _ w).alloc _
  have h1 := h.frame hf1 (fun _ _ hx => hx)
  have hbx : w1.heap[w.heap.size]? = some (.cells #[.int .i64 b.k1, .int .i64 b.k2] 29 (0, 0)) := by rw [← hw1]; exact blk_new rfl
  have k0 := cell_blk_some hbx (i := 0) rfl
  have k1 := cell_blk_some hbx (i := 1) rfl
  have c1 : w1.cell? ⟨cb, 1, none⟩ = some (.map (some mb)) := cell_blk_some h1.hq.blk rfl
  have lk : ∀ n, (Instr.lookup 65 (.map (some mb)) (.agg #[.int .i64 b.k1, .int .i64 b.k2]) false).run Try.prog (w1.drewN n) = .ok (.pointer (some ⟨b.blk, 0, none⟩)) (w1.drewN n) := fun n =>
    (h1.frame (Fr.of_drewN (S := fun _ => False) rfl) (fun _ _ hx => hx)).look (List.mem_of_getElem? hi)
  unfold keyV Bf.key
  have H := Lib.hid h1; have HF1 := Lib.hid hf1; have HI := Lib.hid hi; have HD := Lib.hid hd
  clear h h1 hf1 hi hd hbx
  go_enter Try.func30, Try.ntmps30
  go_wp2_with fail
  go_quiet (fail)
  have hf2 : Fr (fun _ => False) w1 (w1.drewN nq) := Fr.of_drewN rfl
  have h2 := H.out.frame hf2 (fun _ _ hx => hx)
  have hf02 := HF1.out.trans hf2
  clear lk k0 k1 c1 hw1 hf2 H HF1
  generalize w1.drewN nq = w2 at h2 hf02 ⊢
  obtain ⟨d1, d2, d3, d4, d5⟩ := HD.out
  have HB := Lib.hid (d5 w2 i (h2.hq.buf i b HI.out))
  have H2 := Lib.hid h2; have HF := Lib.hid hf02
  have D4 := Lib.hid d4
  clear h2 hf02 d4 d5 HD
  unfold Bf.ptr at HB
  go_wp2_with fail
  refine HB.out.mono ?_
  rintro e w3 ⟨rfl, hf3, hn3⟩
  have HF3 := Lib.hid hf3; have HN3 := Lib.hid hn3
  clear hf3 hn3 HB
  go_wp2_with fail
  go_ret
  have hm : b.blk ∈ Q.map (·.blk) := List.mem_map.2 ⟨b, List.mem_of_getElem? HI.out, rfl⟩
  refine ⟨rfl, ⟨mb, v, E, H2.out.upd HI.out d1 d2 d3 ?_ HF3.out HN3.out⟩, (HF.out.mono fun _ _ hx => hx.elim).trans' HF3.out fun x _ hx => ?_⟩
  · intro u hu; rw [D4.out] at hu; exact H2.out.fine b (List.mem_of_getElem? HI.out) u hu
  · rw [show x = b.blk from hx]; exact H2.out.f4 _ hm

section
variable {w : World} {cb : Nat} {room stamp : Int} {Q : List Bf} {F : Nat → Prop} {i : Nat} {b : Bf}
theorem cell_or_none {k : Nat} (c : Array Value) (h : k < c.size) : c[k]? = some c[k] := Array.getElem?_eq_getElem h
set_option maxHeartbeats 1000000 in
theorem cPin_any (h : CAt w cb room stamp Q F) (hi : Q[i]? = some b) (hb : b.ok) (h0 : 0 ≤ b.pins) (h1 : b.pins ≤ 1000000000) :
    Calls Try.prog 12 #[.pointer (some ⟨cb, 0, none⟩), keyV b.key] w fun e w' => e = .returned (.int .i64 0) ∧ CAt w' cb room stamp (Q.set i (b.setPins (b.pins + 1))) F ∧ Fr F w w' := by
  obtain ⟨w1, hw1⟩ : ∃ w1, w.alloc (.cells #[.int .i64 b.k1, .int .i64 b.k2] 29) = w1 := ⟨_, rfl⟩
  have hf1 : Fr (fun _ => False) w w1 := by rw [← hw1]; exact (Fr.refl _ w).alloc _
  have hbx : w1.heap[w.heap.size]? = some (.cells #[.int .i64 b.k1, .int .i64 b.k2] 29 (0, 0)) := by rw [← hw1]; exact blk_new rfl
  have k0 := cell_blk_some hbx (i := 0) rfl
  have k1 := cell_blk_some hbx (i := 1) rfl
  have hwi := with_any (h.frame hf1 (fun _ _ hx => hx)) hi (pin_does b hb h0 h1) (enters_of Try.func31 (by kernel_rfl) rfl)
  unfold keyV Bf.key at hwi ⊢
  have HW := Lib.hid hwi; have HF1 := Lib.hid hf1
  clear hwi hf1 hbx h hi
  go_enter Try.func12, Try.ntmps12
  go_wp2_with fail
  refine HW.out.mono ?_
  rintro e w2 ⟨rfl, h2, hf2⟩
  have H2 := Lib.hid h2; have HF2 := Lib.hid hf2
  clear h2 hf2 k0 k1 hw1
  go_wp2_with fail
  go_ret
  exact ⟨rfl, H2.out, (HF1.out.mono fun _ _ hx => hx.elim).trans HF2.out⟩
set_option maxHeartbeats 1000000 in
theorem cUnpin_any (h : CAt w cb room stamp Q F) (hi : Q[i]? = some b) (hb : b.ok) (h0 : 0 < b.pins) (h1 : b.pins ≤ 1000000000) :
    Calls Try.prog 14 #[.pointer (some ⟨cb, 0, none⟩), keyV b.key] w fun e w' => e = .returned (.int .i64 0) ∧ CAt w' cb room stamp (Q.set i (b.setPins (b.pins - 1))) F ∧ Fr F w w' := by
  obtain ⟨w1, hw1⟩ : ∃ w1, w.alloc (.cells #[.int .i64 b.k1, .int .i64 b.k2] 29) = w1 := ⟨_, rfl⟩
  have hf1 : Fr (fun _ => False) w w1 := by rw [← hw1]; exact (Fr.refl _ w).alloc _
  have hbx : w1.heap[w.heap.size]? = some (.cells #[.int .i64 b.k1, .int .i64 b.k2] 29 (0, 0)) := by rw [← hw1]; exact blk_new rfl
  have k0 := cell_blk_some hbx (i := 0) rfl
  have k1 := cell_blk_some hbx (i := 1) rfl
  have hwi := with_any (h.frame hf1 (fun _ _ hx => hx)) hi (unpin_does b hb h0 h1) (enters_of Try.func32 (by kernel_rfl) rfl)
  unfold keyV Bf.key at hwi ⊢
  have HW := Lib.hid hwi; have HF1 := Lib.hid hf1
  clear hwi hf1 hbx h hi
  go_enter Try.func14, Try.ntmps14
  go_wp2_with fail
  refine HW.out.mono ?_
  rintro e w2 ⟨rfl, h2, hf2⟩
  have H2 := Lib.hid h2; have HF2 := Lib.hid hf2
  clear h2 hf2 k0 k1 hw1
  go_wp2_with fail
  go_ret
  exact ⟨rfl, H2.out, (HF1.out.mono fun _ _ hx => hx.elim).trans HF2.out⟩
set_option maxHeartbeats 1000000 in
theorem cClean_any (h : CAt w cb room stamp Q F) (hi : Q[i]? = some b) (hb : b.ok) :
    Calls Try.prog 15 #[.pointer (some ⟨cb, 0, none⟩), keyV b.key] w fun e w' => e = .returned (.int .i64 0) ∧ CAt w' cb room stamp (Q.set i (b.setDirty false)) F ∧ Fr F w w' := by
  obtain ⟨w1, hw1⟩ : ∃ w1, w.alloc (.cells #[.int .i64 b.k1, .int .i64 b.k2] 29) = w1 := ⟨_, rfl⟩
  have hf1 : Fr (fun _ => False) w w1 := by rw [← hw1]; exact (Fr.refl _ w).alloc _
  have hbx : w1.heap[w.heap.size]? = some (.cells #[.int .i64 b.k1, .int .i64 b.k2] 29 (0, 0)) := by rw [← hw1]; exact blk_new rfl
  have k0 := cell_blk_some hbx (i := 0) rfl
  have k1 := cell_blk_some hbx (i := 1) rfl
  have hwi := with_any (h.frame hf1 (fun _ _ hx => hx)) hi (clean_does b hb) (enters_of Try.func33 (by kernel_rfl) rfl)
  unfold keyV Bf.key at hwi ⊢
  have HW := Lib.hid hwi; have HF1 := Lib.hid hf1
  clear hwi hf1 hbx h hi
  go_enter Try.func15, Try.ntmps15
  go_wp2_with fail
  refine HW.out.mono ?_
  rintro e w2 ⟨rfl, h2, hf2⟩
  have H2 := Lib.hid h2; have HF2 := Lib.hid hf2
  clear h2 hf2 k0 k1 hw1
  go_wp2_with fail
  go_ret
  exact ⟨rfl, H2.out, (HF1.out.mono fun _ _ hx => hx.elim).trans HF2.out⟩
end
end Go.Proofs.Ytjldocpjoiibjaa
