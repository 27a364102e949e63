/- Walks of the queue's Pop, of container/heap.Push, Fix and Pop over it. -/
import Derived.Test.YtjldocpjoiibjaaC5
namespace Go.Proofs.Ytjldocpjoiibjaa
open Go.RowKit

theorem HAt.cc_size {w : World} {cb : Nat} {Cc : Array Value} {Q : List Bf} {qb cap : Nat} (h : HAt w cb Cc Q qb cap) : 2 < Cc.size := (Array.getElem?_eq_some_iff.1 h.ptr).1

set_option maxHeartbeats 2000000 in
set_option maxRecDepth 100000 in
theorem qPop_any {w : World} {cb : Nat} {Cc : Array Value} {Q : List Bf} {x : Bf} {qb cap : Nat} (h : HAt w cb Cc (Q ++ [x]) qb cap) (hl : Q.length ≤ 1000000) :
    Calls Try.prog 103 #[.pointer (some ⟨cb, 2, none⟩)] w fun e w' => e = .returned (.iface 70 x.ptr) ∧
      HAt w' cb (Cc.setIfInBounds 2 (.slice (some ⟨qb, 0, none⟩) Q.length cap)) Q qb cap ∧ w'.heap[x.blk]? = some (.cells (x.cells Q.length) 74 (0, 0)) ∧ Fr (fun y => y = cb) w w' := by
  unfold Bf.ptr
  have hxq : (Q ++ [x])[Q.length]? = some x := by simp
  have c2 := cell_blk_some h.blk h.ptr
  have f2 := free_blk (i := 2) h.blk
  have cx := h.q.cell hxq
  rw [List.length_append, List.length_singleton] at c2
  have hxb := (h.q.buf _ _ hxq).2
  have hxc : x.blk ≠ cb := fun e => h.off (.inr (e ▸ List.mem_map.2 ⟨x, List.mem_of_getElem? hxq, rfl⟩))
  have hs := h.cc_size
  have hfit : Q.length + 1 ≤ cap := by have := h.q.fits; rw [List.length_append, List.length_singleton] at this; exact this
  have m1 : IntKind.i64.wrap (((Q.length + 1 : Nat) : Int) - 1) = (Q.length : Int) := by
    have : ((Q.length + 1 : Nat) : Int) - 1 = (Q.length : Int) := by omega
    rw [this]; exact IntWalk.i64_in _ (by omega)
  have m2 : (0 : Int) ≤ (Q.length : Int) := by omega
  have m3 : (Q.length : Int) < ((Q.length + 1 : Nat) : Int) := by omega
  have m4 : (Q.length : Int) ≤ (cap : Int) := by omega
  have m5 : Q.length ≤ cap := by omega
  have H := Lib.hid h; have XB := Lib.hid hxb
  clear h hxq hxb
  go_enter Try.func103, Try.ntmps103
  go_wp2_with fail
  go_ret
  have hset : ∀ y o, y ≠ cb → w.heap[y]? = some o → (w.setCell ⟨cb, 2, none⟩ (.slice (some ⟨qb, 0, none⟩) Q.length cap)).heap[y]? = some o := fun y o hy ho => blk_set_other ho hy _
  have hq := H.out.q
  have hnd := hq.nodup
  have hblks : (Q ++ [x]).map (·.blk) = Q.map (·.blk) ++ [x.blk] := by simp
  rw [hblks] at hnd
  refine ⟨rfl, ⟨⟨?_, by omega, ?_, ?_⟩, blk_set H.out.blk _, ?_, ?_⟩, hset _ _ hxc XB.out, Fr.setCell (S := fun y => y = cb) (Fr.refl _ w) ⟨cb, 2, none⟩ rfl _⟩
  · obtain ⟨R, h1, h2, h3⟩ := hq.row
    refine ⟨R, hset _ _ (fun e => H.out.off (.inl e.symm)) h1, h2, fun j b hj => h3 j b ?_⟩
    rw [List.getElem?_append_left (List.getElem?_eq_some_iff.1 hj).1]; exact hj
  · intro j b hj
    have hj' : (Q ++ [x])[j]? = some b := by rw [List.getElem?_append_left (List.getElem?_eq_some_iff.1 hj).1]; exact hj
    have hb := hq.buf j b hj'
    exact ⟨hb.1, hset _ _ (fun e => H.out.off (.inr (e ▸ List.mem_map.2 ⟨b, List.mem_of_getElem? hj', rfl⟩))) hb.2⟩
  · rw [← List.cons_append] at hnd
    exact (List.nodup_append.1 hnd).1
  · rw [Array.getElem?_setIfInBounds, if_pos rfl, if_pos hs]
  · rintro (hx | hx)
    · exact H.out.off (.inl hx)
    · exact H.out.off (.inr (by rw [hblks]; exact List.mem_append_left _ hx))

theorem Bf.ptr_def (b : Bf) : b.ptr = .pointer (some ⟨b.blk, 0, none⟩) := rfl
theorem set2 (Cc : Array Value) (u v : Value) : (Cc.setIfInBounds 2 u).setIfInBounds 2 v = Cc.setIfInBounds 2 v := by
  apply Array.ext_getElem?
  intro k
  simp only [Array.getElem?_setIfInBounds, Array.size_setIfInBounds]
  split <;> rfl
theorem upQ_perm : ∀ (f : Nat) (Q : List Bf) (j : Nat), j < Q.length → (upQ f Q j).Perm Q
  | 0, Q, j, _ => .refl _
  | f + 1, Q, j, hj => by
    rw [upQ]
    split
    · exact .refl _
    · split
      · refine (upQ_perm f _ _ (by rw [swp_length]; omega)).trans (swp_perm (by omega) hj)
      · exact .refl _

set_option maxHeartbeats 2000000 in
set_option maxRecDepth 100000 in
/-- container/heap.Push of a buffer. -/
theorem hPush_any {w : World} {cb : Nat} {Cc : Array Value} {Q : List Bf} {v : Value} (h : HQ w cb Cc Q v) (hC : Cc.size = 4) {b : Bf} (hb : b.ok) {i : Int} (hbl : w.heap[b.blk]? = some (.cells (b.cells i) 74 (0, 0)))
    (h1 : b.blk ∉ Q.map (·.blk)) (h2 : b.blk ≠ cb) (h3 : v.ownBlock ≠ some b.blk) (hl : Q.length ≤ 900000) :
    Calls Try.prog 28 #[hv cb, .iface 70 b.ptr] w fun e w' => e = .returned (.tuple #[]) ∧ ∃ v', HQ w' cb (Cc.setIfInBounds 2 v') (upQ (Q.length + 1) (Q ++ [b]) Q.length) v' ∧ v' ≠ .slice none 0 0 ∧
      (v'.ownBlock = v.ownBlock ∨ ∃ g, v'.ownBlock = some g ∧ w.heap.size ≤ g) ∧ Fr (fun x => x = cb ∨ x = b.blk ∨ v.ownBlock = some x ∨ x ∈ Q.map (·.blk)) w w' := by
  unfold hv
  have HP := Lib.hid (qPush_any h hC hb hbl h1 h2 h3 (by omega))
  have mp := m_push cb
  have cp := cf_push
  have cl := cf_len
  go_enter Try.func28, Try.ntmps28
  go_wp2_with fail
  refine HP.out.mono ?_
  rintro e w1 ⟨rfl, v1, hq1, hn1, ho1, hf1⟩
  obtain ⟨qb, cap, rfl, hh1, hm1⟩ := hq1.toH hn1
  have hcell := cell_blk_some hh1.blk hh1.ptr
  have ml := m_len hcell
  have hlen : (Q ++ [b]).length = Q.length + 1 := by simp
  have HU := Lib.hid (up_any hh1 (j := Q.length) (by omega) (by omega))
  have HLE := Lib.hid (qLen_any (some ⟨qb, 0, none⟩) (Q.length + 1) cap w1)
  have HLN := Lib.hid hlen; have HM1 := Lib.hid hm1; have HO1 := Lib.hid ho1; have HF1 := Lib.hid hf1
  clear hq1 hn1 hh1 hcell hlen hm1 ho1 hf1 h hbl h1 h3
  go_wp2_with fail
  refine HLE.out.mono ?_
  rintro e w2 ⟨rfl, hw⟩
  obtain rfl := hw.symm
  go_wp2_with fail
  refine HU.out.mono ?_
  rintro e w3 ⟨rfl, hh3, hf3⟩
  have hp := upQ_perm (Q ++ [b]).length (Q ++ [b]) Q.length (by rw [HLN.out]; omega)
  have hq3 := hh3.toQ HM1.out
  rw [hp.length_eq] at hq3
  rw [HLN.out] at hq3 hp
  have HQ3 := Lib.hid hq3; have HF3 := Lib.hid hf3
  have ho := HO1.out
  rw [HLN.out] at ho
  have HO := Lib.hid ho
  clear hh3 hp hq3 hf3 ho HO1 HU
  go_wp2_with fail
  go_end0
  refine ⟨rfl, _, HQ3.out, by simp, HO.out, ?_⟩
  refine (HF1.out.mono fun x _ hx => ?_).trans' HF3.out fun x hx hs => ?_
  · rcases hx with hx | hx | hx
    · exact .inl hx
    · exact .inr (.inl hx)
    · exact .inr (.inr (.inl hx))
  · rcases hs with hs | hs
    · rcases HO.out with he | ⟨g, he, hg⟩
      · right; right; left; rw [← he, hs]; rfl
      · simp only [Value.ownBlock, Option.some.injEq] at he
        omega
    · rw [List.map_append, List.mem_append] at hs
      rcases hs with hs | hs
      · exact .inr (.inr (.inr hs))
      · simp at hs; exact .inr (.inl hs)
end Go.Proofs.Ytjldocpjoiibjaa
