/- Walks of the cache's drop and Drop; Clean, Pin, Unpin, Drop of a key that is not there; Unpin of what is not pinned. -/
import Derived.Test.YtjldocpjoiibjaaC31
namespace Go.Proofs.Ytjldocpjoiibjaa
open Go.RowKit

theorem dropB_busy {w : World} {cb : Nat} {b : Bf} {i : Int} (hb : BufAt w b i) (hp : 0 < b.pins) : Calls Try.prog 53 #[.pointer (some ⟨cb, 0, none⟩), b.ptr] w fun e w' => e = .returned (.int .i64 16) ∧ w' = w := by
  have c67 := cell_blk_some hb.2 (Bf.at_pins hb.1 i)
  have q1 : decide ((0 : Int) < b.pins) = true := dec_true hp
  unfold Bf.ptr
  clear hb
  go_enter Try.func53, Try.ntmps53
  go_wp2_with fail
  go_ret
  exact ⟨rfl, rfl⟩

set_option maxHeartbeats 4000000 in
set_option maxRecDepth 100000 in
theorem dropB_any {w : World} {cb : Nat} {room stamp : Int} {Q : List Bf} {F : Nat → Prop} {i : Nat} {b : Bf} (h : CAt w cb room stamp Q F) (hi : Q[i]? = some b) (hp : b.pins = 0) (hl : Q.length ≤ 900000) :
    Calls Try.prog 53 #[.pointer (some ⟨cb, 0, none⟩), b.ptr] w fun e w' => e = .returned (.int .i64 0) ∧ CAt w' cb room stamp (remR Q i) F ∧ Fr F w w' := by
  obtain ⟨mb, v, E, h⟩ := h
  obtain ⟨hb1, hb2⟩ := h.hq.buf i b hi
  have c67 := cell_blk_some hb2 (Bf.at_pins hb1 i)
  rw [hp] at c67
  have c69 := cell_blk_some hb2 (Bf.at_placed hb1 i)
  have hrm := hRemove_any (h.frame ((Fr.refl (fun _ => False) w).drew) (fun _ _ hx => hx)).hq hi hl
  have HR := Lib.hid hrm; have H := Lib.hid h; have HI := Lib.hid hi
  clear h hi hb2 hrm
  unfold Bf.ptr
  unfold hv at HR
  go_enter Try.func53, Try.ntmps53
  go_wp2_with fail
  go_still_tail 8, (by kernel_rfl)
  change wpList _ _ _ _ _ w.drew
  have H1 := Lib.hid (H.out.frame ((Fr.refl (fun _ => False) w).drew) (fun _ _ hx => hx))
  have FR1 := Lib.hid ((Fr.refl (fun _ => False) w).drew)
  generalize w.drew = w1 at HR H1 FR1 ⊢
  clear c67 c69 H
  go_wp2_with fail
  refine HR.out.mono ?_
  rintro e w2 ⟨rfl, ⟨v2, hq2, hn2, ho2⟩, hb2, hf2⟩
  have hm2 := H1.out.mp.frame hf2 (by
    rintro (hx | hx | hx)
    · exact H1.out.mo1 hx
    · exact H1.out.mo2 hx
    · exact H1.out.mo3 hx)
  have hxm : (b.key, b.ptr) ∈ E := H1.out.link.mem_iff.2 (List.mem_map.2 ⟨b, List.mem_of_getElem? HI.out, rfl⟩)
  obtain ⟨o, j, hdel, hj, hme⟩ := run_delete_ents Try.underlying65 (w := w2.drew) hm2 (H1.out.ekeys.nodup_iff.2 H1.out.keys) hxm
  unfold keyV Bf.key at hdel
  have k0 := cell_blk_some hb2 (i := 0) (v := .int .i64 b.k1) rfl
  have k1 := cell_blk_some hb2 (i := 1) (v := .int .i64 b.k2) rfl
  have c1 : w2.cell? ⟨cb, 1, none⟩ = some (.map (some mb)) := cell_blk_some hq2.blk rfl
  have HQ2 := Lib.hid hq2; have F2 := Lib.hid hf2; have HJ := Lib.hid hj; have HME := Lib.hid hme; have OW := Lib.hid ho2
  clear hq2 hn2 ho2 hb2 hf2 hm2 hxm hj hme HR
  go_wp2_with fail
  go_still_tail 8, (by kernel_rfl)
  change wpList _ _ _ _ _ w2.drew
  have hq3 := HQ2.out.drew
  have hf3 := F2.out.drew
  clear k0 k1 c1 HQ2 F2
  generalize w2.drew = w3 at hdel HME hq3 hf3 ⊢
  obtain ⟨w4, hw4⟩ : ∃ w4, setB w3 mb o = w4 := ⟨_, rfl⟩
  rw [hw4] at hdel HME
  have F4 := Lib.hid (show Fr (fun y => y = mb) w3 w4 by rw [← hw4]; exact Fr.setB _ _ _)
  have HQ3 := Lib.hid hq3; have F3 := Lib.hid hf3
  clear hw4 hq3 hf3
  go_wp2_with fail
  go_ret
  have hil := (List.getElem?_eq_some_iff.1 HI.out).1
  have hrp : (b :: remR Q i).Perm Q := by
    have := rem_perm hil
    rw [(rem_split HI.out).1] at this
    exact (List.perm_append_comm (l₁ := [b])).trans this
  have hsub : ∀ x ∈ remR Q i, x ∈ Q := fun x hx => hrp.mem_iff.1 (List.mem_cons_of_mem _ hx)
  have hblk : ∀ y, y ∈ (remR Q i).map (·.blk) → y ∈ Q.map (·.blk) := fun y hy => by
    obtain ⟨x, hx, rfl⟩ := List.mem_map.1 hy
    exact List.mem_map.2 ⟨x, hsub x hx, rfl⟩
  have hs1 : ∀ y, (y = cb ∨ v.ownBlock = some y ∨ y ∈ Q.map (·.blk)) → F y := fun y hy => by
    rcases hy with rfl | hy | hy
    · exact H1.out.f1
    · exact H1.out.f3 _ hy
    · exact H1.out.f4 _ hy
  have hfr : Fr F w w4 := ((FR1.out.mono fun _ _ hx => hx.elim).trans' F3.out fun y _ hy => hs1 y hy).trans' F4.out fun y _ hy => by rw [show y = mb from hy]; exact H1.out.f2
  refine ⟨rfl, ⟨mb, v2, E.eraseIdx j, ⟨?_, HME.out, ?_, ?_, fun x hx => H1.out.fine x (hsub x hx), H1.out.mo1, by rw [OW.out]; exact H1.out.mo2, fun hx => H1.out.mo3 (hblk _ hx), H1.out.f1, H1.out.f2, by rw [OW.out]; exact H1.out.f3, fun x hx => H1.out.f4 x (hblk x hx), fun x hx => ?_⟩⟩, hfr⟩
  · have hc : (cacheC room mb v stamp).setIfInBounds 2 v2 = cacheC room mb v2 stamp := rfl
    rw [hc] at HQ3
    refine HQ3.out.frame F4.out (fun g hg e => H1.out.mo2 (by rw [← OW.out, hg, e])) (fun y hy e => H1.out.mo3 (e ▸ hblk y hy)) ?_ HQ3.out.ptr
    rw [F4.out.block cb (blk_lt HQ3.out.blk) (fun e => H1.out.mo1 e.symm)]; exact HQ3.out.blk
  · have h1 := (erase_perm E j _ HJ.out).trans (H1.out.link.trans (hrp.map fun b => (b.key, b.ptr)).symm)
    rw [List.map_cons] at h1
    exact h1.cons_inv
  · have h1 := (hrp.map Bf.key).nodup_iff.2 H1.out.keys
    rw [List.map_cons, List.nodup_cons] at h1
    exact h1.2
  · exact Nat.lt_of_lt_of_le (H1.out.lt x hx) ((F3.out.mono (S' := fun _ => True) fun _ _ _ => trivial).trans (F4.out.mono fun _ _ _ => trivial)).size
end Go.Proofs.Ytjldocpjoiibjaa
