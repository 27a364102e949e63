/- Walks of the cache's Put where the key is not there. -/
import Derived.Test.YtjldocpjoiibjaaC14
namespace Go.Proofs.Ytjldocpjoiibjaa
open Go.RowKit

/-- A buffer as Put makes it. -/
def newB (nb : Nat) (k : Int × Int) : Bf := ⟨nb, k.1, k.2, List.replicate 64 (.int .u8 0), false, 0, 0⟩
theorem newB_ok (nb : Nat) (k : Int × Int) : (newB nb k).ok := by show (List.replicate 64 _).length = 64; rfl
theorem newB_cells (nb : Nat) (x y : Int) : (Try.zeroCells74.setIfInBounds 0 (.int .i64 x)).setIfInBounds 1 (.int .i64 y) = (newB nb (x, y)).cells 0 := by first | rfl | kernel_rfl
theorem CAt.wide {w : World} {cb : Nat} {room stamp : Int} {Q : List Bf} {F F' : Nat → Prop} (h : CAt w cb room stamp Q F) (h1 : ∀ x, F x → F' x) (h2 : ∀ x, F' x → x < w.heap.size) : CAt w cb room stamp Q F' := by
  obtain ⟨mb, v, E, h⟩ := h
  exact ⟨mb, v, E, h.hq, h.mp, h.link, h.keys, h.fine, h.mo1, h.mo2, h.mo3, h1 _ h.f1, h1 _ h.f2, fun g hg => h1 _ (h.f3 g hg), fun x hx => h1 _ (h.f4 x hx), h2⟩
/-- Behind the map's and the queue's steps the cache holds the new buffer. -/
theorem CIn.pushed {wy wc : World} {cb : Nat} {room stamp : Int} {Q : List Bf} {F : Nat → Prop} {mb : Nat} {v v' : Value} {E : List ((Int × Int) × Value)} (h : CIn wy cb room stamp Q F mb v E) {k : Int × Int} (hk : k ∉ Q.map Bf.key)
    (hq : HQ wc cb (cacheC room mb v' stamp) (hpush Q (newB wy.heap.size k)) v') (hm : Ents wc mb (E ++ [(k, (newB wy.heap.size k).ptr)])) (ho : v'.ownBlock = v.ownBlock ∨ ∃ g, v'.ownBlock = some g ∧ wy.heap.size ≤ g) (hsz : wy.heap.size < wc.heap.size) :
    CIn wc cb room stamp (hpush Q (newB wy.heap.size k)) (Fx F wy wc) mb v' (E ++ [(k, (newB wy.heap.size k).ptr)]) := by
  have hp := hpush_perm Q (newB wy.heap.size k)
  have hb : ∀ y, y ∈ (hpush Q (newB wy.heap.size k)).map (·.blk) → y ∈ Q.map (·.blk) ∨ y = wy.heap.size := fun y hy => by
    have := (hp.map (·.blk)).mem_iff.1 hy
    rw [List.map_append, List.mem_append] at this
    rcases this with h | h
    · exact .inl h
    · simp [newB] at h; exact .inr h
  have hmlt := h.lt _ h.f2
  refine ⟨hq, hm, ?_, ?_, ?_, h.mo1, fun e => ?_, fun hy => ?_, .inl h.f1, .inl h.f2, fun g hg => ?_, fun y hy => ?_, fun y hy => ?_⟩
  · have h1 : (E ++ [(k, (newB wy.heap.size k).ptr)]).Perm ((Q ++ [newB wy.heap.size k]).map fun b => (b.key, b.ptr)) := by
      rw [List.map_append]
      exact h.link.append_right _
    exact h1.trans (hp.map _).symm
  · have h1 : ((Q ++ [newB wy.heap.size k]).map Bf.key).Nodup := by
      rw [List.map_append, List.nodup_append]
      exact ⟨h.keys, by simp, fun a ha b hb' e => by
        have h2 : b = k := by simpa [newB, Bf.key] using hb'
        exact hk (h2 ▸ e ▸ ha)⟩
    exact (hp.map Bf.key).nodup_iff.2 h1
  · intro b hb' u hu
    have := hp.mem_iff.1 hb'
    rcases List.mem_append.1 this with h1 | h1
    · exact h.fine b h1 u hu
    · simp at h1; subst h1
      simp only [newB, List.mem_replicate] at hu
      rw [hu.2]; rfl
  · rcases ho with h1 | ⟨g, h1, h2⟩
    · exact h.mo2 (by rw [← h1]; exact e)
    · rw [h1] at e; obtain rfl := Option.some.inj e; omega
  · rcases hb _ hy with h1 | h1
    · exact h.mo3 h1
    · omega
  · rcases ho with h1 | ⟨g2, h1, h2⟩
    · exact .inl (h.f3 g (by rw [← h1]; exact hg))
    · rw [h1] at hg; obtain rfl := Option.some.inj hg
      exact .inr ⟨h2, (hq.own.lt _ h1).2⟩
  · rcases hb _ hy with h1 | h1
    · exact .inl (h.f4 _ h1)
    · exact .inr ⟨by omega, by omega⟩
  · rcases hy with h1 | h1
    · have := h.lt _ h1; omega
    · exact h1.2

set_option maxHeartbeats 4000000 in
set_option maxRecDepth 100000 in
theorem put_new {w : World} {cb : Nat} {room stamp : Int} {Q : List Bf} {F : Nat → Prop} {k : Int × Int} {g o c : Nat} {l : List Value} {d : Bool} (h : CAt w cb room stamp Q F) (hk : k ∉ Q.map Bf.key) (hr : room ≠ Q.length) (hd : DataAt w F g o l)
    (hs0 : 0 ≤ stamp) (hs1 : stamp ≤ 4000000000000000000) (hl : Q.length ≤ 800000) :
    Calls Try.prog 10 #[.pointer (some ⟨cb, 0, none⟩), keyV k, .slice (some ⟨g, o, none⟩) 64 c, .bool d] w fun e w' => ∃ nb i, w.heap.size ≤ nb ∧ (hpush Q (newB nb k))[i]? = some (newB nb k) ∧ e = .returned (.int .i64 0) ∧
      CAt w' cb room (stamp + 1) (useQ ((hpush Q (newB nb k)).set i ((newB nb k).put l d)) i (stamp + 1)) (Fx F w w') ∧ Fr F w w' := by
  obtain ⟨mb, v, E, h⟩ := h
  obtain ⟨x, y⟩ := k
  obtain ⟨w1, hw1⟩ : ∃ w1, w.alloc (.cells #[.int .i64 x, .int .i64 y] 29) = w1 := ⟨_, rfl⟩
  have hf1 : Fr (fun _ => False) w w1 := by rw [← hw1]; exact (Fr.refl _ w).alloc _
  have hsz1 : w1.heap.size = w.heap.size + 1 := by rw [← hw1]; simp
  have h1 := h.frame hf1 (fun _ _ hx => hx)
  have hbx : w1.heap[w.heap.size]? = some (.cells #[.int .i64 x, .int .i64 y] 29 (0, 0)) := by rw [← hw1]; exact blk_new rfl
  have k0 := cell_blk_some hbx (i := 0) rfl
  have k1 := cell_blk_some hbx (i := 1) rfl
  have c1 : w1.cell? ⟨cb, 1, none⟩ = some (.map (some mb)) := cell_blk_some h1.hq.blk rfl
  have lk : ∀ n, (Instr.lookup 65 (.map (some mb)) (.agg #[.int .i64 x, .int .i64 y]) false).run Try.prog (w1.drewN n) = .ok (.pointer none) (w1.drewN n) := fun n =>
    (h1.frame (Fr.of_drewN (S := fun _ => False) rfl) (fun _ _ hx => hx)).miss hk
  unfold keyV
  have H := Lib.hid h1; have HF1 := Lib.hid hf1; have HD := Lib.hid hd; have HK := Lib.hid hk; have HBX := Lib.hid hbx
  have HLT := Lib.hid h.lt
  clear h h1 hf1 hbx hd hk
  go_enter Try.func10, Try.ntmps10
  go_wp2_with fail
  go_quiet (fail)
  have hf2 : Fr (fun _ => False) w1 (w1.drewN nq) := Fr.of_drewN rfl
  have h2 := H.out.frame hf2 (fun _ _ hx => hx)
  have hf02 := HF1.out.trans hf2
  have hbx2 : (w1.drewN nq).heap[w.heap.size]? = some (.cells #[.int .i64 x, .int .i64 y] 29 (0, 0)) := HBX.out
  have hsz2 : (w1.drewN nq).heap.size = w.heap.size + 1 := hsz1
  clear lk k0 k1 c1 hw1 hf2 H HF1 HBX
  generalize w1.drewN nq = w2 at h2 hf02 hbx2 hsz2 ⊢
  have c0 : w2.cell? ⟨cb, 0, none⟩ = some (.int .i64 room) := cell_blk_some h2.hq.blk rfl
  have c1 : w2.cell? ⟨cb, 1, none⟩ = some (.map (some mb)) := cell_blk_some h2.hq.blk rfl
  have hel : E.length = Q.length := by rw [h2.link.length_eq, List.length_map]
  have ln : ∀ n ty, (Builtin.len_ #[65] ty #[.map (some mb)]).run Try.prog (w2.drewN n) = .ok (.int .i64 Q.length) (w2.drewN n) := fun n ty => by
    have := run_len_ents Try.underlying65 (h2.frame (Fr.of_drewN (S := fun _ => False) (n := n) rfl) (fun _ _ hx => hx)).mp ty
    rw [hel] at this; exact this
  have H2 := Lib.hid h2; have HF02 := Lib.hid hf02; have HBX2 := Lib.hid hbx2
  clear h2 hf02 hbx2 hel
  go_wp2_with fail
  go_quiet (fail)
  have hf3 : Fr (fun _ => False) w2 (w2.drewN nq) := Fr.of_drewN rfl
  have h3 := H2.out.frame hf3 (fun _ _ hx => hx)
  have hf03 := HF02.out.trans hf3
  have hbx3 : (w2.drewN nq).heap[w.heap.size]? = some (.cells #[.int .i64 x, .int .i64 y] 29 (0, 0)) := HBX2.out
  have hsz3 : (w2.drewN nq).heap.size = w.heap.size + 1 := hsz2
  clear ln c0 c1 hf3 H2 HF02 HBX2 hsz2 hsz1
  generalize w2.drewN nq = w3 at h3 hf03 hbx3 hsz3 ⊢
  have qr : ((Q.length : Int) == room) = false := by rw [beq_eq_false_iff_ne]; exact fun e => hr e.symm
  have hFy : ∀ z, F z → F z ∨ w.heap.size < z := fun z hz => .inl hz
  have hfy : Fr F w w3 := hf03.mono fun _ _ hx => hx.elim
  have hky := HK.out
  have hy := h3
  have hbxy := hbx3
  have hszy : w.heap.size < w3.heap.size := by omega
  clear h3 hf03 hbx3 hsz3
  obtain ⟨wB, rfl⟩ : ∃ wB, wB = w3 := ⟨_, rfl⟩
  have HY := Lib.hid hy; have HFY := Lib.hid hfy; have HKY := Lib.hid hky; have HFyF := Lib.hid hFy
  have k0 := cell_blk_some hbxy (i := 0) rfl
  have k1 := cell_blk_some hbxy (i := 1) rfl
  obtain ⟨b, hbdef⟩ : ∃ b, b = newB wB.heap.size (x, y) := ⟨_, rfl⟩
  have hbblk : b.blk = wB.heap.size := by rw [hbdef]; rfl
  obtain ⟨wa, hwa3⟩ : ∃ wa, wB.alloc (.cells ((Try.zeroCells74.setIfInBounds 0 (.int .i64 x)).setIfInBounds 1 (.int .i64 y)) 74) = wa := ⟨_, rfl⟩
  have hwa := hwa3
  rw [newB_cells wB.heap.size x y, ← hbdef] at hwa
  have hfa : Fr (fun _ => False) wB wa := by rw [← hwa]; exact (Fr.refl _ wB).alloc _
  have hna : wa.heap[b.blk]? = some (.cells (b.cells 0) 74 (0, 0)) := by rw [← hwa, hbblk]; exact blk_new rfl
  have hsza : wa.heap.size = wB.heap.size + 1 := by rw [← hwa]; simp
  have ha := hy.frame hfa (fun _ _ hx => hx)
  have hbxa : wa.heap[w.heap.size]? = some (.cells #[.int .i64 x, .int .i64 y] 29 (0, 0)) := by rw [hfa.block _ (blk_lt hbxy) (fun h => h)]; exact hbxy
  have ka0 := cell_blk_some hbxa (i := 0) rfl
  have ka1 := cell_blk_some hbxa (i := 1) rfl
  have ca1 : wa.cell? ⟨cb, 1, none⟩ = some (.map (some mb)) := cell_blk_some ha.hq.blk rfl
  have hmd : Ents wa.drew mb E := ha.mp
  obtain ⟨ob, hup, hme⟩ := run_update_ents Try.underlying65 hmd (k := (x, y)) (fun hx => hky (ha.ekeys.mem_iff.1 hx)) b.ptr
  unfold keyV Bf.ptr at hup
  rw [hbblk] at hup
  have HA := Lib.hid ha; have HNA := Lib.hid hna; have HME := Lib.hid hme; have HFA := Lib.hid hfa
  clear hy hfy hky hFy hbxy hwa hfa hna ha hbxa hmd hme
  go_wp2_with fail
  go_still_tail 6, (by kernel_rfl)
  change wpList _ _ _ _ _ wa.drew
  obtain ⟨wb, hwb⟩ : ∃ wb, setB wa.drew mb ob = wb := ⟨_, rfl⟩
  rw [hwb] at hup HME
  have hfb : Fr (fun z => z = mb) wa wb := by rw [← hwb]; exact ((Fr.refl _ wa).drew).trans (Fr.setB _ _ _)
  have hmlt := HA.out.lt mb HA.out.f2
  have hmlty := HY.out.lt mb HY.out.f2
  have hqb := HA.out.hq.frame hfb (fun g hg e => HA.out.mo2 (by rw [hg, e])) (fun z hz e => HA.out.mo3 (e ▸ hz)) (by rw [hfb.block cb (HA.out.lt _ HA.out.f1) (fun e => HA.out.mo1 e.symm)]; exact HA.out.hq.blk) HA.out.hq.ptr
  have hnb : wb.heap[b.blk]? = some (.cells (b.cells 0) 74 (0, 0)) := by rw [hfb.block b.blk (blk_lt HNA.out) (by rw [hbblk]; omega)]; exact HNA.out
  have hszb : wb.heap.size = wa.heap.size := by rw [← hwb]; show (wa.heap.setIfInBounds mb ob).size = _; simp
  have hcby := HY.out.lt cb HY.out.f1
  have hpu := hPush_any hqb (by rfl) (by rw [hbdef]; exact newB_ok _ _) hnb (fun hz => by have := HY.out.lt _ (HY.out.f4 _ hz); omega) (by omega) (fun e => by have := HY.out.lt _ (HY.out.f3 _ e); omega) (by omega)
  unfold hv Bf.ptr at hpu
  rw [hbblk] at hpu
  have HPU := Lib.hid hpu; have HFB := Lib.hid hfb
  clear hpu hfb hqb hnb hwb ka0 ka1 ca1
  generalize wa.drew = wd at hup ⊢
  go_wp2_with fail
  refine HPU.out.mono ?_
  rintro e wc ⟨rfl, v', hqc, hnc, hoc, hfc⟩
  have hszc : wB.heap.size < wc.heap.size := by have := hfc.size; omega
  have hmc : Ents wc mb (E ++ [((x, y), b.ptr)]) := HME.out.frame hfc fun hs => by
    rcases hs with hs | hs | hs | hs
    · exact HY.out.mo1 hs
    · omega
    · exact HY.out.mo2 hs
    · exact HY.out.mo3 hs
  have hz := HY.out.pushed HKY.out (by rw [← hbdef]; exact hqc) (by rw [← hbdef]; exact hmc) (hoc.imp id fun ⟨g2, h1, h2⟩ => ⟨g2, h1, by omega⟩) hszc
  rw [← hbdef] at hz
  have hfz : Fr F w wc := by
    refine ((HFY.out.trans' HFA.out fun _ _ h => h.elim).trans' HFB.out fun z hz1 hz2 => ?_).trans' hfc fun z hz1 hz2 => ?_
    · rcases HFyF.out mb HY.out.f2 with h | h
      · rw [show z = mb from hz2]; exact h
      · rw [show z = mb from hz2] at hz1; omega
    · have hFy2 : F z ∨ z = wB.heap.size := by
        rcases hz2 with h | h | h | h
        · exact .inl (h ▸ HY.out.f1)
        · exact .inr h
        · exact .inl (HY.out.f3 z h)
        · exact .inl (HY.out.f4 z h)
      rcases hFy2 with h | h
      · rcases HFyF.out z h with h | h
        · exact h
        · omega
      · omega
  have hp2 := hpush_perm Q b
  obtain ⟨i, hi⟩ := List.mem_iff_getElem?.1 (hp2.mem_iff.2 (List.mem_append_right _ (List.mem_singleton.2 rfl)))
  have hl : (hpush Q b).length ≤ 900000 := by rw [hp2.length_eq, List.length_append, List.length_singleton]; omega
  obtain ⟨hbok, hbn⟩ := hz.hq.buf i b hi
  have hrg := HD.out.frame hfz
  have hthere : wc.there b.blk 2 64 := fun j hj => by
    have hc := cell_blk (i := 2 + j) hbn
    refine ⟨?_, free_blk hbn⟩
    rw [hc, Array.getElem?_eq_getElem (by rw [Bf.size hbok]; omega)]; rfl
  obtain ⟨Q2, hQ2⟩ : ∃ Q2, Q2 = hpush Q b := ⟨_, rfl⟩
  rw [← hQ2] at hz hi hl
  rw [← hbblk]
  have HZ := Lib.hid hz; have HFZ := Lib.hid hfz; have HBN := Lib.hid hbn; have HRG := Lib.hid hrg; have HTH := Lib.hid hthere; have HI := Lib.hid hi; have HBB := Lib.hid hbblk; have HBD := Lib.hid hbdef; have HQ2 := Lib.hid hQ2
  have h64 : l.length = 64 := HD.out.len
  have HSC := Lib.hid hszc
  clear hz hfz hbn hrg hthere hi hbblk hbdef hQ2 hqc hnc hoc hfc hmc hp2 hszc HPU HFB HME HNA HA HFA hwa3 hup k0 k1
  obtain ⟨wz, hwz⟩ : ∃ wz, wz = wc := ⟨_, rfl⟩
  rw [← hwz] at HZ HFZ HBN HRG HTH HSC ⊢
  clear hwz
  have aa : ∀ w : World, (Instr.arrayAt 72 (.slice (some ⟨g, o, none⟩) 64 c)).run Try.prog w = .ok (.pointer (some ⟨g, o, none⟩)) w := fun w => by
    simp [Instr.arrayAt, run_underlying Try.underlying72]
  obtain ⟨wx, hwx⟩ : ∃ wx, wz.setCells b.blk 2 l = wx := ⟨_, rfl⟩
  have hxn : wx.heap[b.blk]? = some (.cells ((b.setData l).cells i) 74 (0, 0)) := by
    rw [← hwx, ← Bf.dataCells hbok i h64]; exact blk_setCells l 2 wz _ HBN.out
  have hok2 : (b.setData l).ok := h64
  have c66 := cell_blk_some hxn (Bf.at_dirty hok2 i)
  have f66 := free_blk (i := 66) hxn
  obtain ⟨wy, hwy⟩ : ∃ wy, wx.setCell ⟨b.blk, 66, none⟩ (.bool (b.dirty || d)) = wy := ⟨_, rfl⟩
  have hyn : wy.heap[b.blk]? = some (.cells ((b.put l d).cells i) 74 (0, 0)) := by
    have := blk_set (i := 66) hxn (.bool (b.dirty || d))
    rw [Bf.dirtyCells hok2] at this
    rw [← hwy]; exact this
  have hfy : Fr (fun x => x = b.blk) wz wy := by
    rw [← hwy, ← hwx]
    exact (Fr.setCells (S := fun x => x = b.blk) l 2 _ _ (Fr.refl _ wz) rfl).setCell ⟨b.blk, 66, none⟩ rfl _
  have hy := HZ.out.upd HI.out (b' := b.put l d) rfl rfl h64 HD.out.one hfy hyn
  have hus := use_any hy (i := i) (b := b.put l d) (by rw [List.getElem?_set, if_pos rfl, if_pos (List.getElem?_eq_some_iff.1 HI.out).1]) hs0 hs1 (by rw [List.length_set]; exact hl)
  unfold Bf.ptr at hus
  rw [show (b.put l d).blk = b.blk from rfl] at hus
  have hbF : Fr (Fx F wB wz) wz wy := hfy.mono fun x _ hx => by rw [show x = b.blk from hx]; exact HZ.out.f4 _ (List.mem_map.2 ⟨b, List.mem_of_getElem? HI.out, rfl⟩)
  have HUS := Lib.hid hus; have HBF := Lib.hid hbF
  clear hxn hyn hfy hy hus hbF
  have c66' : wx.cell? ⟨b.blk, 66, none⟩ = some (.bool b.dirty) := c66
  clear c66
  cases hdd : b.dirty
  all_goals
    rw [hdd] at hwy c66'
    simp only [Bool.false_or, Bool.true_or] at hwy
    clear hdd
    go_wp2_with (first
      | (refine wpList_load_mid rfl 72 _ rfl g o rfl l _ HRG.out Try.underlying72 rfl (by rw [h64]; kernel_rfl) ?_)
      | (refine wpList_store_mid rfl 72 _ _ rfl b.blk 2 l.toArray rfl rfl (by rw [List.size_toArray, h64]; exact HTH.out) (by rw [List.size_toArray, h64]; kernel_rfl) (all_oneCell_toArray HD.out.one) ?_))
    refine HUS.out.mono ?_
    rintro e w9 ⟨rfl, h9, hf9⟩
    have H9 := Lib.hid h9; have HF9 := Lib.hid hf9
    clear h9 hf9 HUS hwx hwy c66' f66 aa
    go_wp2_with fail
    go_ret
    have hFF : ∀ z, Fx F wB wz z → Fx F w w9 z := fun z hz => by
      have hs : wz.heap.size ≤ w9.heap.size := Nat.le_trans HBF.out.size HF9.out.size
      rcases hz with h | h
      · have := HY.out.lt z h
        rcases HFyF.out z h with h2 | h2
        · exact .inl h2
        · exact .inr ⟨by omega, by have := HSC.out; omega⟩
      · exact .inr ⟨by have := HFY.out.size; omega, by omega⟩
    have hlow : ∀ z, z < w.heap.size → Fx F wB wz z → F z := fun z hz hf => by
      rcases hFF z hf with h | h
      · exact h
      · omega
    have hfr := (HFZ.out.trans' HBF.out hlow).trans' HF9.out hlow
    rw [HQ2.out, HBD.out] at H9
    refine ⟨wB.heap.size, i, HFY.out.size, ?_, rfl, CAt.wide ⟨mb, v', _, H9.out⟩ hFF fun z hz => ?_, hfr⟩
    · have := HI.out
      rw [HQ2.out, HBD.out] at this
      exact this
    · rcases hz with h | h
      · exact Nat.lt_of_lt_of_le (HLT.out z h) hfr.size
      · exact h.2
/-- What an eviction leaves, in the queue again. -/
def evF (Q : List Bf) : List Bf := (evQ Q.length Q []).2.2.foldl hpush (evQ Q.length Q []).2.1
def evX (Q : List Bf) : Option Bf := (evQ Q.length Q []).1
theorem popQ_perm {Q : List Bf} (h : 0 < Q.length) : (popR Q ++ [popX Q]).Perm Q := by
  have hl : (popQ Q).length = Q.length := by
    unfold popQ
    rw [(downQ_perm _ _ _ _ (by rw [swp_length]; omega)).length_eq, swp_length]
  have hp : (popQ Q).Perm Q := (downQ_perm _ _ _ _ (by rw [swp_length]; omega)).trans (swp_perm h (by omega))
  have hs : popR Q ++ [popX Q] = popQ Q := by
    unfold popR popX
    obtain ⟨x, hx⟩ : ∃ x, (popQ Q)[Q.length - 1]? = some x := ⟨_, List.getElem?_eq_getElem (by omega)⟩
    rw [getD_of hx]
    have := List.take_add_one (l := popQ Q) (i := Q.length - 1)
    rw [hx, show Q.length - 1 + 1 = (popQ Q).length by omega, List.take_length] at this
    exact this.symm
  rw [hs]; exact hp
theorem evQ_perm : ∀ (f : Nat) (Q K : List Bf), (((evQ f Q K).1.toList ++ (evQ f Q K).2.1) ++ (evQ f Q K).2.2).Perm (Q ++ K)
  | 0, Q, K => .refl _
  | f + 1, Q, K => by
    rw [evQ]
    split
    · exact .refl _
    · rename_i h0
      have hp := popQ_perm (Q := Q) (by omega)
      split
      · refine (evQ_perm f _ _).trans ?_
        refine List.Perm.trans ?_ (hp.append_right K)
        rw [List.append_assoc]
        exact List.Perm.append_left _ List.perm_append_comm
      · refine List.Perm.append_right K ?_
        exact List.perm_append_comm.trans hp
theorem evF_perm (Q : List Bf) : ((evX Q).toList ++ evF Q).Perm Q := by
  have h1 := evQ_perm Q.length Q []
  rw [List.append_nil, List.append_assoc] at h1
  exact (List.Perm.append_left _ (hpush_all _ _)).trans h1
theorem evF_sub {Q : List Bf} {b : Bf} (h : b ∈ evF Q) : b ∈ Q := (evF_perm Q).mem_iff.1 (List.mem_append_right _ h)

set_option maxHeartbeats 4000000 in
set_option maxRecDepth 100000 in
theorem put_full {w : World} {cb : Nat} {room stamp : Int} {Q : List Bf} {F : Nat → Prop} {k : Int × Int} {g o c : Nat} {l : List Value} {d : Bool} (h : CAt w cb room stamp Q F) (hk : k ∉ Q.map Bf.key) (hr : room = Q.length) (hev : evX Q = none) (hd : DataAt w F g o l)
    (_ : 0 ≤ stamp) (_ : stamp ≤ 4000000000000000000) (hl : Q.length ≤ 800000) :
    Calls Try.prog 10 #[.pointer (some ⟨cb, 0, none⟩), keyV k, .slice (some ⟨g, o, none⟩) 64 c, .bool d] w fun e w' => e = .returned (.int .i64 28) ∧ CAt w' cb room stamp (evF Q) (Fx F w w') ∧ Fr F w w' := by
  obtain ⟨mb, v, E, h⟩ := h
  obtain ⟨x, y⟩ := k
  obtain ⟨w1, hw1⟩ : ∃ w1, w.alloc (.cells #[.int .i64 x, .int .i64 y] 29) = w1 := ⟨_, rfl⟩
  have hf1 : Fr (fun _ => False) w w1 := by rw [← hw1]; exact (Fr.refl _ w).alloc _
  have hsz1 : w1.heap.size = w.heap.size + 1 := by rw [← hw1]; simp
  have h1 := h.frame hf1 (fun _ _ hx => hx)
  have hbx : w1.heap[w.heap.size]? = some (.cells #[.int .i64 x, .int .i64 y] 29 (0, 0)) := by rw [← hw1]; exact blk_new rfl
  have k0 := cell_blk_some hbx (i := 0) rfl
  have k1 := cell_blk_some hbx (i := 1) rfl
  have c1 : w1.cell? ⟨cb, 1, none⟩ = some (.map (some mb)) := cell_blk_some h1.hq.blk rfl
  have lk : ∀ n, (Instr.lookup 65 (.map (some mb)) (.agg #[.int .i64 x, .int .i64 y]) false).run Try.prog (w1.drewN n) = .ok (.pointer none) (w1.drewN n) := fun n =>
    (h1.frame (Fr.of_drewN (S := fun _ => False) rfl) (fun _ _ hx => hx)).miss hk
  unfold keyV
  have H := Lib.hid h1; have HF1 := Lib.hid hf1; have HD := Lib.hid hd; have HK := Lib.hid hk; have HBX := Lib.hid hbx
  have HLT := Lib.hid h.lt
  clear h h1 hf1 hbx hd hk
  go_enter Try.func10, Try.ntmps10
  go_wp2_with fail
  go_quiet (fail)
  have hf2 : Fr (fun _ => False) w1 (w1.drewN nq) := Fr.of_drewN rfl
  have h2 := H.out.frame hf2 (fun _ _ hx => hx)
  have hf02 := HF1.out.trans hf2
  have hbx2 : (w1.drewN nq).heap[w.heap.size]? = some (.cells #[.int .i64 x, .int .i64 y] 29 (0, 0)) := HBX.out
  have hsz2 : (w1.drewN nq).heap.size = w.heap.size + 1 := hsz1
  clear lk k0 k1 c1 hw1 hf2 H HF1 HBX
  generalize w1.drewN nq = w2 at h2 hf02 hbx2 hsz2 ⊢
  have c0 : w2.cell? ⟨cb, 0, none⟩ = some (.int .i64 room) := cell_blk_some h2.hq.blk rfl
  have c1 : w2.cell? ⟨cb, 1, none⟩ = some (.map (some mb)) := cell_blk_some h2.hq.blk rfl
  have hel : E.length = Q.length := by rw [h2.link.length_eq, List.length_map]
  have ln : ∀ n ty, (Builtin.len_ #[65] ty #[.map (some mb)]).run Try.prog (w2.drewN n) = .ok (.int .i64 Q.length) (w2.drewN n) := fun n ty => by
    have := run_len_ents Try.underlying65 (h2.frame (Fr.of_drewN (S := fun _ => False) (n := n) rfl) (fun _ _ hx => hx)).mp ty
    rw [hel] at this; exact this
  have H2 := Lib.hid h2; have HF02 := Lib.hid hf02; have HBX2 := Lib.hid hbx2
  clear h2 hf02 hbx2 hel
  go_wp2_with fail
  go_quiet (fail)
  have hf3 : Fr (fun _ => False) w2 (w2.drewN nq) := Fr.of_drewN rfl
  have h3 := H2.out.frame hf3 (fun _ _ hx => hx)
  have hf03 := HF02.out.trans hf3
  have hbx3 : (w2.drewN nq).heap[w.heap.size]? = some (.cells #[.int .i64 x, .int .i64 y] 29 (0, 0)) := HBX2.out
  have hsz3 : (w2.drewN nq).heap.size = w.heap.size + 1 := hsz2
  clear ln c0 c1 hf3 H2 HF02 HBX2 hsz2 hsz1
  generalize w2.drewN nq = w3 at h3 hf03 hbx3 hsz3 ⊢
  have qr : ((Q.length : Int) == room) = true := by rw [beq_iff_eq]; exact hr.symm
  have hvi := evict_any h3 (by omega)
  unfold evX at hev
  rw [hev, show (if (none : Option Bf).isSome then (0 : Int) else 28) = 28 from rfl] at hvi
  have HVI := Lib.hid hvi
  have HF3 := Lib.hid hf03
  clear hvi hev h3 hf03 hbx3
  go_wp2_with fail
  refine HVI.out.mono ?_
  rintro e w5 ⟨rfl, h5, hf5⟩
  have H5 := Lib.hid h5; have HF5 := Lib.hid hf5
  clear h5 hf5 HVI
  go_wp2_with fail
  go_ret
  have hfr := (HF3.out.mono (S' := F) fun _ _ hx => hx.elim).trans HF5.out
  refine ⟨rfl, CAt.wide (Q := evF Q) H5.out (fun z hz => ?_) fun z hz => ?_, hfr⟩
  · rcases hz with h | h
    · exact .inl h
    · exact .inr ⟨by omega, h.2⟩
  · rcases hz with h | h
    · exact Nat.lt_of_lt_of_le (HLT.out z h) hfr.size
    · exact h.2

set_option maxHeartbeats 4000000 in
set_option maxRecDepth 100000 in
theorem put_evict {w : World} {cb : Nat} {room stamp : Int} {Q : List Bf} {F : Nat → Prop} {k : Int × Int} {g o c : Nat} {l : List Value} {d : Bool} (h : CAt w cb room stamp Q F) (hk : k ∉ Q.map Bf.key) (hr : room = Q.length) (hev : (evX Q).isSome = true) (hd : DataAt w F g o l)
    (hs0 : 0 ≤ stamp) (hs1 : stamp ≤ 4000000000000000000) (hl : Q.length ≤ 800000) :
    Calls Try.prog 10 #[.pointer (some ⟨cb, 0, none⟩), keyV k, .slice (some ⟨g, o, none⟩) 64 c, .bool d] w fun e w' => ∃ nb i, w.heap.size ≤ nb ∧ (hpush (evF Q) (newB nb k))[i]? = some (newB nb k) ∧ e = .returned (.int .i64 0) ∧
      CAt w' cb room (stamp + 1) (useQ ((hpush (evF Q) (newB nb k)).set i ((newB nb k).put l d)) i (stamp + 1)) (Fx F w w') ∧ Fr F w w' := by
  obtain ⟨Qy, hQy⟩ : ∃ Qy, Qy = evF Q := ⟨_, rfl⟩
  rw [← hQy]
  have HQY := Lib.hid hQy
  clear hQy
  obtain ⟨mb, v, E, h⟩ := h
  obtain ⟨x, y⟩ := k
  obtain ⟨w1, hw1⟩ : ∃ w1, w.alloc (.cells #[.int .i64 x, .int .i64 y] 29) = w1 := ⟨_, rfl⟩
  have hf1 : Fr (fun _ => False) w w1 := by rw [← hw1]; exact (Fr.refl _ w).alloc _
  have hsz1 : w1.heap.size = w.heap.size + 1 := by rw [← hw1]; simp
  have h1 := h.frame hf1 (fun _ _ hx => hx)
  have hbx : w1.heap[w.heap.size]? = some (.cells #[.int .i64 x, .int .i64 y] 29 (0, 0)) := by rw [← hw1]; exact blk_new rfl
  have k0 := cell_blk_some hbx (i := 0) rfl
  have k1 := cell_blk_some hbx (i := 1) rfl
  have c1 : w1.cell? ⟨cb, 1, none⟩ = some (.map (some mb)) := cell_blk_some h1.hq.blk rfl
  have lk : ∀ n, (Instr.lookup 65 (.map (some mb)) (.agg #[.int .i64 x, .int .i64 y]) false).run Try.prog (w1.drewN n) = .ok (.pointer none) (w1.drewN n) := fun n =>
    (h1.frame (Fr.of_drewN (S := fun _ => False) rfl) (fun _ _ hx => hx)).miss hk
  unfold keyV
  have H := Lib.hid h1; have HF1 := Lib.hid hf1; have HD := Lib.hid hd; have HK := Lib.hid hk; have HBX := Lib.hid hbx
  have HLT := Lib.hid h.lt
  clear h h1 hf1 hbx hd hk
  go_enter Try.func10, Try.ntmps10
  go_wp2_with fail
  go_quiet (fail)
  have hf2 : Fr (fun _ => False) w1 (w1.drewN nq) := Fr.of_drewN rfl
  have h2 := H.out.frame hf2 (fun _ _ hx => hx)
  have hf02 := HF1.out.trans hf2
  have hbx2 : (w1.drewN nq).heap[w.heap.size]? = some (.cells #[.int .i64 x, .int .i64 y] 29 (0, 0)) := HBX.out
  have hsz2 : (w1.drewN nq).heap.size = w.heap.size + 1 := hsz1
  clear lk k0 k1 c1 hw1 hf2 H HF1 HBX
  generalize w1.drewN nq = w2 at h2 hf02 hbx2 hsz2 ⊢
  have c0 : w2.cell? ⟨cb, 0, none⟩ = some (.int .i64 room) := cell_blk_some h2.hq.blk rfl
  have c1 : w2.cell? ⟨cb, 1, none⟩ = some (.map (some mb)) := cell_blk_some h2.hq.blk rfl
  have hel : E.length = Q.length := by rw [h2.link.length_eq, List.length_map]
  have ln : ∀ n ty, (Builtin.len_ #[65] ty #[.map (some mb)]).run Try.prog (w2.drewN n) = .ok (.int .i64 Q.length) (w2.drewN n) := fun n ty => by
    have := run_len_ents Try.underlying65 (h2.frame (Fr.of_drewN (S := fun _ => False) (n := n) rfl) (fun _ _ hx => hx)).mp ty
    rw [hel] at this; exact this
  have H2 := Lib.hid h2; have HF02 := Lib.hid hf02; have HBX2 := Lib.hid hbx2
  clear h2 hf02 hbx2 hel
  go_wp2_with fail
  go_quiet (fail)
  have hf3 : Fr (fun _ => False) w2 (w2.drewN nq) := Fr.of_drewN rfl
  have h3 := H2.out.frame hf3 (fun _ _ hx => hx)
  have hf03 := HF02.out.trans hf3
  have hbx3 : (w2.drewN nq).heap[w.heap.size]? = some (.cells #[.int .i64 x, .int .i64 y] 29 (0, 0)) := HBX2.out
  have hsz3 : (w2.drewN nq).heap.size = w.heap.size + 1 := hsz2
  clear ln c0 c1 hf3 H2 HF02 HBX2 hsz2 hsz1
  generalize w2.drewN nq = w3 at h3 hf03 hbx3 hsz3 ⊢
  have qr : ((Q.length : Int) == room) = true := by rw [beq_iff_eq]; exact hr.symm
  have hvi := evict_any h3 (by omega)
  unfold evX at hev
  rw [hev, if_pos rfl] at hvi
  have HVI := Lib.hid hvi
  have HF3 := Lib.hid hf03; have HB3 := Lib.hid hbx3; have HS3 := Lib.hid hsz3
  clear hvi hev h3 hf03 hbx3 hsz3
  go_wp2_with fail
  refine HVI.out.mono ?_
  rintro e wB ⟨rfl, h5, hf5⟩
  have h5' : CAt wB cb room stamp Qy (Fx F w3 wB) := by rw [HQY.out]; exact h5
  obtain ⟨mb, v, E, hy⟩ := h5'
  have hlen : Qy.length ≤ Q.length := by
    have := (evF_perm Q).length_eq
    rw [List.length_append, ← HQY.out] at this; omega
  have hly : Qy.length ≤ 800000 := by omega
  have hky : (x, y) ∉ Qy.map Bf.key := fun hx => by
    obtain ⟨b, hb, he⟩ := List.mem_map.1 hx
    rw [HQY.out] at hb
    exact HK.out (List.mem_map.2 ⟨b, evF_sub hb, he⟩)
  have hFy : ∀ z, Fx F w3 wB z → F z ∨ w.heap.size < z := fun z hz => by
    rcases hz with h | h
    · exact .inl h
    · exact .inr (by have := HS3.out; omega)
  have hfy : Fr F w wB := (HF3.out.mono (S' := F) fun _ _ hx => hx.elim).trans hf5
  have hbxy : wB.heap[w.heap.size]? = some (.cells #[.int .i64 x, .int .i64 y] 29 (0, 0)) := by
    rw [hf5.block _ (blk_lt HB3.out) (fun hf => by have := HLT.out _ hf; omega)]; exact HB3.out
  have hszy : w.heap.size < wB.heap.size := blk_lt hbxy
  clear h5 hf5 HVI HF3 HB3 HS3 hlen
  have HY := Lib.hid hy; have HFY := Lib.hid hfy; have HKY := Lib.hid hky; have HFyF := Lib.hid hFy
  have k0 := cell_blk_some hbxy (i := 0) rfl
  have k1 := cell_blk_some hbxy (i := 1) rfl
  obtain ⟨b, hbdef⟩ : ∃ b, b = newB wB.heap.size (x, y) := ⟨_, rfl⟩
  have hbblk : b.blk = wB.heap.size := by rw [hbdef]; rfl
  obtain ⟨wa, hwa3⟩ : ∃ wa, wB.alloc (.cells ((Try.zeroCells74.setIfInBounds 0 (.int .i64 x)).setIfInBounds 1 (.int .i64 y)) 74) = wa := ⟨_, rfl⟩
  have hwa := hwa3
  rw [newB_cells wB.heap.size x y, ← hbdef] at hwa
  have hfa : Fr (fun _ => False) wB wa := by rw [← hwa]; exact (Fr.refl _ wB).alloc _
  have hna : wa.heap[b.blk]? = some (.cells (b.cells 0) 74 (0, 0)) := by rw [← hwa, hbblk]; exact blk_new rfl
  have hsza : wa.heap.size = wB.heap.size + 1 := by rw [← hwa]; simp
  have ha := hy.frame hfa (fun _ _ hx => hx)
  have hbxa : wa.heap[w.heap.size]? = some (.cells #[.int .i64 x, .int .i64 y] 29 (0, 0)) := by rw [hfa.block _ (blk_lt hbxy) (fun h => h)]; exact hbxy
  have ka0 := cell_blk_some hbxa (i := 0) rfl
  have ka1 := cell_blk_some hbxa (i := 1) rfl
  have ca1 : wa.cell? ⟨cb, 1, none⟩ = some (.map (some mb)) := cell_blk_some ha.hq.blk rfl
  have hmd : Ents wa.drew mb E := ha.mp
  obtain ⟨ob, hup, hme⟩ := run_update_ents Try.underlying65 hmd (k := (x, y)) (fun hx => hky (ha.ekeys.mem_iff.1 hx)) b.ptr
  unfold keyV Bf.ptr at hup
  rw [hbblk] at hup
  have HA := Lib.hid ha; have HNA := Lib.hid hna; have HME := Lib.hid hme; have HFA := Lib.hid hfa
  clear hy hfy hky hFy hbxy hwa hfa hna ha hbxa hmd hme
  go_wp2_with fail
  go_still_tail 6, (by kernel_rfl)
  change wpList _ _ _ _ _ wa.drew
  obtain ⟨wb, hwb⟩ : ∃ wb, setB wa.drew mb ob = wb := ⟨_, rfl⟩
  rw [hwb] at hup HME
  have hfb : Fr (fun z => z = mb) wa wb := by rw [← hwb]; exact ((Fr.refl _ wa).drew).trans (Fr.setB _ _ _)
  have hmlt := HA.out.lt mb HA.out.f2
  have hmlty := HY.out.lt mb HY.out.f2
  have hqb := HA.out.hq.frame hfb (fun g hg e => HA.out.mo2 (by rw [hg, e])) (fun z hz e => HA.out.mo3 (e ▸ hz)) (by rw [hfb.block cb (HA.out.lt _ HA.out.f1) (fun e => HA.out.mo1 e.symm)]; exact HA.out.hq.blk) HA.out.hq.ptr
  have hnb : wb.heap[b.blk]? = some (.cells (b.cells 0) 74 (0, 0)) := by rw [hfb.block b.blk (blk_lt HNA.out) (by rw [hbblk]; omega)]; exact HNA.out
  have hszb : wb.heap.size = wa.heap.size := by rw [← hwb]; show (wa.heap.setIfInBounds mb ob).size = _; simp
  have hcby := HY.out.lt cb HY.out.f1
  have hpu := hPush_any hqb (by rfl) (by rw [hbdef]; exact newB_ok _ _) hnb (fun hz => by have := HY.out.lt _ (HY.out.f4 _ hz); omega) (by omega) (fun e => by have := HY.out.lt _ (HY.out.f3 _ e); omega) (by omega)
  unfold hv Bf.ptr at hpu
  rw [hbblk] at hpu
  have HPU := Lib.hid hpu; have HFB := Lib.hid hfb
  clear hpu hfb hqb hnb hwb ka0 ka1 ca1
  generalize wa.drew = wd at hup ⊢
  go_wp2_with fail
  refine HPU.out.mono ?_
  rintro e wc ⟨rfl, v', hqc, hnc, hoc, hfc⟩
  have hszc : wB.heap.size < wc.heap.size := by have := hfc.size; omega
  have hmc : Ents wc mb (E ++ [((x, y), b.ptr)]) := HME.out.frame hfc fun hs => by
    rcases hs with hs | hs | hs | hs
    · exact HY.out.mo1 hs
    · omega
    · exact HY.out.mo2 hs
    · exact HY.out.mo3 hs
  have hz := HY.out.pushed HKY.out (by rw [← hbdef]; exact hqc) (by rw [← hbdef]; exact hmc) (hoc.imp id fun ⟨g2, h1, h2⟩ => ⟨g2, h1, by omega⟩) hszc
  rw [← hbdef] at hz
  have hfz : Fr F w wc := by
    refine ((HFY.out.trans' HFA.out fun _ _ h => h.elim).trans' HFB.out fun z hz1 hz2 => ?_).trans' hfc fun z hz1 hz2 => ?_
    · rcases HFyF.out mb HY.out.f2 with h | h
      · rw [show z = mb from hz2]; exact h
      · rw [show z = mb from hz2] at hz1; omega
    · have hFy2 : (Fx F w3 wB) z ∨ z = wB.heap.size := by
        rcases hz2 with h | h | h | h
        · exact .inl (h ▸ HY.out.f1)
        · exact .inr h
        · exact .inl (HY.out.f3 z h)
        · exact .inl (HY.out.f4 z h)
      rcases hFy2 with h | h
      · rcases HFyF.out z h with h | h
        · exact h
        · omega
      · omega
  have hp2 := hpush_perm Qy b
  obtain ⟨i, hi⟩ := List.mem_iff_getElem?.1 (hp2.mem_iff.2 (List.mem_append_right _ (List.mem_singleton.2 rfl)))
  have hl : (hpush Qy b).length ≤ 900000 := by rw [hp2.length_eq, List.length_append, List.length_singleton]; omega
  obtain ⟨hbok, hbn⟩ := hz.hq.buf i b hi
  have hrg := HD.out.frame hfz
  have hthere : wc.there b.blk 2 64 := fun j hj => by
    have hc := cell_blk (i := 2 + j) hbn
    refine ⟨?_, free_blk hbn⟩
    rw [hc, Array.getElem?_eq_getElem (by rw [Bf.size hbok]; omega)]; rfl
  obtain ⟨Q2, hQ2⟩ : ∃ Q2, Q2 = hpush Qy b := ⟨_, rfl⟩
  rw [← hQ2] at hz hi hl
  rw [← hbblk]
  have HZ := Lib.hid hz; have HFZ := Lib.hid hfz; have HBN := Lib.hid hbn; have HRG := Lib.hid hrg; have HTH := Lib.hid hthere; have HI := Lib.hid hi; have HBB := Lib.hid hbblk; have HBD := Lib.hid hbdef; have HQ2 := Lib.hid hQ2
  have h64 : l.length = 64 := HD.out.len
  have HSC := Lib.hid hszc
  clear hz hfz hbn hrg hthere hi hbblk hbdef hQ2 hqc hnc hoc hfc hmc hp2 hszc HPU HFB HME HNA HA HFA hwa3 hup k0 k1
  obtain ⟨wz, hwz⟩ : ∃ wz, wz = wc := ⟨_, rfl⟩
  rw [← hwz] at HZ HFZ HBN HRG HTH HSC ⊢
  clear hwz
  have aa : ∀ w : World, (Instr.arrayAt 72 (.slice (some ⟨g, o, none⟩) 64 c)).run Try.prog w = .ok (.pointer (some ⟨g, o, none⟩)) w := fun w => by
    simp [Instr.arrayAt, run_underlying Try.underlying72]
  obtain ⟨wx, hwx⟩ : ∃ wx, wz.setCells b.blk 2 l = wx := ⟨_, rfl⟩
  have hxn : wx.heap[b.blk]? = some (.cells ((b.setData l).cells i) 74 (0, 0)) := by
    rw [← hwx, ← Bf.dataCells hbok i h64]; exact blk_setCells l 2 wz _ HBN.out
  have hok2 : (b.setData l).ok := h64
  have c66 := cell_blk_some hxn (Bf.at_dirty hok2 i)
  have f66 := free_blk (i := 66) hxn
  obtain ⟨wy, hwy⟩ : ∃ wy, wx.setCell ⟨b.blk, 66, none⟩ (.bool (b.dirty || d)) = wy := ⟨_, rfl⟩
  have hyn : wy.heap[b.blk]? = some (.cells ((b.put l d).cells i) 74 (0, 0)) := by
    have := blk_set (i := 66) hxn (.bool (b.dirty || d))
    rw [Bf.dirtyCells hok2] at this
    rw [← hwy]; exact this
  have hfy : Fr (fun x => x = b.blk) wz wy := by
    rw [← hwy, ← hwx]
    exact (Fr.setCells (S := fun x => x = b.blk) l 2 _ _ (Fr.refl _ wz) rfl).setCell ⟨b.blk, 66, none⟩ rfl _
  have hy := HZ.out.upd HI.out (b' := b.put l d) rfl rfl h64 HD.out.one hfy hyn
  have hus := use_any hy (i := i) (b := b.put l d) (by rw [List.getElem?_set, if_pos rfl, if_pos (List.getElem?_eq_some_iff.1 HI.out).1]) hs0 hs1 (by rw [List.length_set]; exact hl)
  unfold Bf.ptr at hus
  rw [show (b.put l d).blk = b.blk from rfl] at hus
  have hbF : Fr (Fx (Fx F w3 wB) wB wz) wz wy := hfy.mono fun x _ hx => by rw [show x = b.blk from hx]; exact HZ.out.f4 _ (List.mem_map.2 ⟨b, List.mem_of_getElem? HI.out, rfl⟩)
  have HUS := Lib.hid hus; have HBF := Lib.hid hbF
  clear hxn hyn hfy hy hus hbF
  have c66' : wx.cell? ⟨b.blk, 66, none⟩ = some (.bool b.dirty) := c66
  clear c66
  cases hdd : b.dirty
  all_goals
    rw [hdd] at hwy c66'
    simp only [Bool.false_or, Bool.true_or] at hwy
    clear hdd
    go_wp2_with (first
      | (refine wpList_load_mid rfl 72 _ rfl g o rfl l _ HRG.out Try.underlying72 rfl (by rw [h64]; kernel_rfl) ?_)
      | (refine wpList_store_mid rfl 72 _ _ rfl b.blk 2 l.toArray rfl rfl (by rw [List.size_toArray, h64]; exact HTH.out) (by rw [List.size_toArray, h64]; kernel_rfl) (all_oneCell_toArray HD.out.one) ?_))
    refine HUS.out.mono ?_
    rintro e w9 ⟨rfl, h9, hf9⟩
    have H9 := Lib.hid h9; have HF9 := Lib.hid hf9
    clear h9 hf9 HUS hwx hwy c66' f66 aa
    go_wp2_with fail
    go_ret
    have hFF : ∀ z, Fx (Fx F w3 wB) wB wz z → Fx F w w9 z := fun z hz => by
      have hs : wz.heap.size ≤ w9.heap.size := Nat.le_trans HBF.out.size HF9.out.size
      rcases hz with h | h
      · have := HY.out.lt z h
        rcases HFyF.out z h with h2 | h2
        · exact .inl h2
        · exact .inr ⟨by omega, by have := HSC.out; omega⟩
      · exact .inr ⟨by have := HFY.out.size; omega, by omega⟩
    have hlow : ∀ z, z < w.heap.size → Fx (Fx F w3 wB) wB wz z → F z := fun z hz hf => by
      rcases hFF z hf with h | h
      · exact h
      · omega
    have hfr := (HFZ.out.trans' HBF.out hlow).trans' HF9.out hlow
    rw [HQ2.out, HBD.out] at H9
    refine ⟨wB.heap.size, i, HFY.out.size, ?_, rfl, CAt.wide ⟨mb, v', _, H9.out⟩ hFF fun z hz => ?_, hfr⟩
    · have := HI.out
      rw [HQ2.out, HBD.out] at this
      exact this
    · rcases hz with h | h
      · exact Nat.lt_of_lt_of_le (HLT.out z h) hfr.size
      · exact h.2
end Go.Proofs.Ytjldocpjoiibjaa
