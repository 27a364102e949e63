/- Walk of the cache's use. -/
import Derived.Test.YtjldocpjoiibjaaC9
import Derived.StillTailTactics
namespace Go.Proofs.Ytjldocpjoiibjaa
open Go.RowKit

theorem map_set_same {α β : Type} (f : α → β) (l : List α) (i : Nat) (x y : α) (h : l[i]? = some x) (hf : f y = f x) : (l.set i y).map f = l.map f := by
  have hil : i < l.length := (List.getElem?_eq_some_iff.1 h).1
  rw [List.map_set]
  apply List.ext_getElem?
  intro j
  rw [List.getElem?_set]
  split
  · rename_i hj; subst hj
    rw [List.getElem?_map, h]; simp [hil, hf]
  · rfl
theorem Bf.setStamp_ok {b : Bf} (h : b.ok) (s : Int) : (b.setStamp s).ok := h
theorem HQ.drew {w : World} {cb : Nat} {Cc : Array Value} {Q : List Bf} {v : Value} (h : HQ w cb Cc Q v) : HQ w.drew cb Cc Q v := ⟨h.blk, h.ptr, h.own, h.buf, h.nodup, h.off1, h.off2⟩
def useQ (Q : List Bf) (i : Nat) (s : Int) : List Bf := fixQ (Q.set i ((Q.getD i dflt).setStamp s)) i

set_option maxHeartbeats 2000000 in
set_option maxRecDepth 100000 in
theorem use_any {w : World} {cb : Nat} {room stamp : Int} {Q : List Bf} {F : Nat → Prop} {mb : Nat} {v : Value} {E : List ((Int × Int) × Value)} (h : CIn w cb room stamp Q F mb v E) {i : Nat} {b : Bf} (hi : Q[i]? = some b)
    (hs0 : 0 ≤ stamp) (hs1 : stamp ≤ 4000000000000000000) (hl : Q.length ≤ 900000) :
    Calls Try.prog 29 #[.pointer (some ⟨cb, 0, none⟩), b.ptr] w fun e w' => e = .returned (.tuple #[]) ∧ CIn w' cb room (stamp + 1) (useQ Q i (stamp + 1)) F mb v E ∧ Fr F w w' := by
  unfold Bf.ptr useQ
  rw [getD_of hi]
  have hil : i < Q.length := (List.getElem?_eq_some_iff.1 hi).1
  obtain ⟨hb1, hb2⟩ := h.hq.buf i b hi
  have hm : b.blk ∈ Q.map (·.blk) := List.mem_map.2 ⟨b, List.mem_of_getElem? hi, rfl⟩
  have hbc : b.blk ≠ cb := fun e => h.hq.off1 (e ▸ hm)
  have c3 : w.cell? ⟨cb, 3, none⟩ = some (.int .i64 stamp) := cell_blk_some h.hq.blk rfl
  have f3 := free_blk (i := 3) h.hq.blk
  have s1 : IntKind.i64.wrap (stamp + 1) = stamp + 1 := IntWalk.i64_in _ (by omega)
  obtain ⟨w1, hw1⟩ : ∃ w1, w.setCell ⟨cb, 3, none⟩ (.int .i64 (stamp + 1)) = w1 := ⟨_, rfl⟩
  have k1 : w1.heap[cb]? = some (.cells (cacheC room mb v (stamp + 1)) 69 (0, 0)) := by rw [← hw1]; exact blk_set h.hq.blk _
  have b1 : w1.heap[b.blk]? = some (.cells (b.cells i) 74 (0, 0)) := by rw [← hw1]; exact blk_set_other hb2 hbc _
  have c31 : w1.cell? ⟨cb, 3, none⟩ = some (.int .i64 (stamp + 1)) := cell_blk_some k1 rfl
  have p1 := cell_blk_some b1 (Bf.at_stamp hb1 i)
  have p2 := free_blk (i := 68) b1
  obtain ⟨w2, hw2⟩ : ∃ w2, w1.setCell ⟨b.blk, 68, none⟩ (.int .i64 (stamp + 1)) = w2 := ⟨_, rfl⟩
  have k2 : w2.heap[cb]? = some (.cells (cacheC room mb v (stamp + 1)) 69 (0, 0)) := by rw [← hw2]; exact blk_set_other k1 (Ne.symm hbc) _
  have b2 : w2.heap[b.blk]? = some (.cells ((b.setStamp (stamp + 1)).cells i) 74 (0, 0)) := by
    have := blk_set (i := 68) b1 (.int .i64 (stamp + 1))
    rw [Bf.stampCells hb1] at this
    rw [← hw2]; exact this
  have fr2 : Fr (fun x => x = b.blk ∨ x = cb) w w2 := by
    rw [← hw2, ← hw1]; exact ((Fr.refl _ w).setCell _ (.inr rfl) _).setCell _ (.inl rfl) _
  have pl2 := cell_blk_some b2 (Bf.at_placed (Bf.setStamp_ok hb1 (stamp + 1)) i)
  have hq2 := h.hq.upd hi (b' := b.setStamp (stamp + 1)) rfl (Bf.setStamp_ok hb1 _) fr2 b2 k2 (by rfl)
  have H := Lib.hid h; have B2 := Lib.hid b2; have K2 := Lib.hid k2; have FR2 := Lib.hid fr2; have HQ2 := Lib.hid hq2; have HI := Lib.hid hi; have HM := Lib.hid hm
  clear h b2 k2 fr2 hq2 hi hm hb2 k1 b1
  go_enter Try.func29, Try.ntmps29
  go_wp2_with fail
  go_still_tail 8, (by kernel_rfl)
  change wpList _ _ _ _ _ w2.drew
  have hq3 := HQ2.out.drew
  have fr3 := FR2.out.drew
  generalize w2.drew = w3 at hq3 fr3 ⊢
  have HFX := Lib.hid (hFix_any hq3 (i := i) (by rw [List.length_set]; exact hil) (by rw [List.length_set]; exact hl))
  have FR3 := Lib.hid fr3
  clear hw1 hw2 c3 f3 c31 p1 p2 pl2 hq3 fr3
  go_wp2_with fail
  refine HFX.out.mono ?_
  rintro e w4 ⟨rfl, hq4, hp4, hf4⟩
  have HQ4 := Lib.hid hq4; have HP4 := Lib.hid hp4; have HF4 := Lib.hid hf4
  clear hq4 hp4 hf4
  go_wp2_with fail
  go_end0
  have hF : ∀ x, (x = b.blk ∨ x = cb) → F x := fun x hx => by
    rcases hx with rfl | rfl
    · exact H.out.f4 _ HM.out
    · exact H.out.f1
  have hmb : (Q.set i (b.setStamp (stamp + 1))).map (·.blk) = Q.map (·.blk) := map_set_same (·.blk) Q i b (b.setStamp (stamp + 1)) HI.out rfl
  have hF4 : ∀ x, (v.ownBlock = some x ∨ x ∈ (Q.set i (b.setStamp (stamp + 1))).map (·.blk)) → F x := fun x hx => by
    rcases hx with hx | hx
    · exact H.out.f3 x hx
    · rw [hmb] at hx; exact H.out.f4 x hx
  have hfr := (FR3.out.mono fun x _ hx => hF x hx).trans' HF4.out fun x _ hx => hF4 x hx
  have hpb := HP4.out.map (·.blk)
  rw [hmb] at hpb
  refine ⟨rfl, ⟨HQ4.out, ?_, ?_, ?_, ?_, H.out.mo1, H.out.mo2, fun hx => H.out.mo3 (hpb.mem_iff.1 hx), H.out.f1, H.out.f2, H.out.f3, fun x hx => H.out.f4 x (hpb.mem_iff.1 hx), fun x hx => Nat.lt_of_lt_of_le (H.out.lt x hx) hfr.size⟩, hfr⟩
  · refine (H.out.mp.frame FR3.out ?_).frame HF4.out ?_
    · rintro (hx | hx)
      · exact H.out.mo3 (hx ▸ HM.out)
      · exact H.out.mo1 hx
    · rintro (hx | hx)
      · exact H.out.mo2 hx
      · rw [hmb] at hx; exact H.out.mo3 hx
  · have h1 := HP4.out.map fun b => (b.key, b.ptr)
    have hk : (Q.set i (b.setStamp (stamp + 1))).map (fun b => (b.key, b.ptr)) = Q.map (fun b => (b.key, b.ptr)) := map_set_same (fun b => (b.key, b.ptr)) Q i b (b.setStamp (stamp + 1)) HI.out rfl
    rw [hk] at h1
    exact H.out.link.trans h1.symm
  · have h1 := HP4.out.map Bf.key
    have hk : (Q.set i (b.setStamp (stamp + 1))).map Bf.key = Q.map Bf.key := map_set_same Bf.key Q i b (b.setStamp (stamp + 1)) HI.out rfl
    rw [hk] at h1
    exact h1.nodup_iff.2 H.out.keys
  · intro x hx
    rcases List.mem_or_eq_of_mem_set (HP4.out.mem_iff.1 hx) with hx | rfl
    · exact H.out.fine x hx
    · exact H.out.fine b (List.mem_of_getElem? HI.out)
end Go.Proofs.Ytjldocpjoiibjaa
