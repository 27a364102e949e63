/- Walks of the queue's Push and Pop. -/
import Derived.Test.YtjldocpjoiibjaaC4
import Derived.Maps.AppendAt
namespace Go.Proofs.Ytjldocpjoiibjaa
open Go.RowKit

def Bf.ptr (b : Bf) : Value := .pointer (some ⟨b.blk, 0, none⟩)
/-- The queue behind its field, its slice nil or not. -/
structure HQ (w : World) (cb : Nat) (Cc : Array Value) (Q : List Bf) (v : Value) : Prop where
  blk : w.heap[cb]? = some (.cells Cc 69 (0, 0))
  ptr : Cc[2]? = some v
  own : w.ownsRow 0 70 1 v Q.length (Q.map Bf.ptr)
  buf : ∀ (j : Nat) (b : Bf), Q[j]? = some b → BufAt w b j
  nodup : (Q.map (·.blk)).Nodup
  off1 : cb ∉ Q.map (·.blk)
  off2 : ∀ g, v.ownBlock = some g → g ≠ cb ∧ g ∉ Q.map (·.blk)
theorem HQ.shape {w : World} {cb : Nat} {Cc : Array Value} {Q : List Bf} {v : Value} (h : HQ w cb Cc Q v) : ∃ a c, v = .slice a Q.length c := by
  rcases h.own.2 with ⟨rfl, h0⟩ | ⟨g, cap, cur, rfl, _⟩
  · exact ⟨none, 0, by rw [h0]⟩
  · exact ⟨_, _, rfl⟩
theorem HQ.toH {w : World} {cb : Nat} {Cc : Array Value} {Q : List Bf} {v : Value} (h : HQ w cb Cc Q v) (hne : v ≠ .slice none 0 0) : ∃ qb cap, v = .slice (some ⟨qb, 0, none⟩) Q.length cap ∧ HAt w cb Cc Q qb cap ∧ cap ≤ maxLen := by
  rcases h.own.2 with ⟨rfl, _⟩ | ⟨g, cap, cur, rfl, _, hg, h1, h2, h3, h4⟩
  · exact absurd rfl hne
  · obtain ⟨o1, o2⟩ := h.off2 g rfl
    refine ⟨g, cap, rfl, ⟨⟨⟨cur, hg, by omega, fun j b hj => ?_⟩, h1, h.buf, ?_⟩, h.blk, h.ptr, ?_⟩, h2⟩
    · have hjl : j < Q.length := (List.getElem?_eq_some_iff.1 hj).1
      have h5 : (cur.toList.take Q.length)[j]? = (Q.map Bf.ptr)[j]? := by rw [← h4, Nat.mul_one]
      rw [List.getElem?_take, if_pos hjl, List.getElem?_map, hj] at h5
      simpa [Bf.ptr] using h5
    · exact List.nodup_cons.2 ⟨o2, h.nodup⟩
    · rintro (hx | hx)
      · exact o1 hx.symm
      · exact h.off1 hx
theorem HAt.toQ {w : World} {cb : Nat} {Cc : Array Value} {Q : List Bf} {qb cap : Nat} (h : HAt w cb Cc Q qb cap) (hm : cap ≤ maxLen) : HQ w cb Cc Q (.slice (some ⟨qb, 0, none⟩) Q.length cap) := by
  obtain ⟨R, hR, hRs, hRq⟩ := h.q.row
  refine ⟨h.blk, h.ptr, ⟨by simp, .inr ⟨qb, cap, R, rfl, Nat.zero_le _, hR, h.q.fits, hm, by omega, ?_⟩⟩, h.q.buf, (List.nodup_cons.1 h.q.nodup).2, fun hx => h.off (.inr hx), fun g hg => ?_⟩
  · apply List.ext_getElem?
    intro j
    rw [Nat.mul_one, List.getElem?_take]
    by_cases hj : j < Q.length
    · rw [if_pos hj, List.getElem?_map, List.getElem?_eq_getElem hj]
      have := hRq j _ (List.getElem?_eq_getElem hj)
      simpa [Bf.ptr] using this
    · rw [if_neg hj, List.getElem?_eq_none (by simpa using hj)]
  · simp only [Value.ownBlock, Option.some.injEq] at hg
    subst hg
    exact ⟨fun e => h.off (.inl e.symm), (List.nodup_cons.1 h.q.nodup).1⟩
theorem infoPtr : (Try.prog.info? 70).map (fun i => (i.zero, i.size, i.bytes)) = some (some (.pointer none), 1, 8) := by kernel_rfl

theorem assert_buf (x : Value) (w : World) : (Instr.typeAssert (.iface 70 x) 20 70 false).run Try.prog w = .ok x w := by kernel_rfl
set_option maxHeartbeats 2000000 in
set_option maxRecDepth 100000 in
theorem qPush_any {w : World} {cb : Nat} {Cc : Array Value} {Q : List Bf} {v : Value} (h : HQ w cb Cc Q v) (hC : Cc.size = 4) {b : Bf} (hb : b.ok) {i : Int} (hbl : w.heap[b.blk]? = some (.cells (b.cells i) 74 (0, 0)))
    (h1 : b.blk ∉ Q.map (·.blk)) (h2 : b.blk ≠ cb) (h3 : v.ownBlock ≠ some b.blk) (hl : Q.length ≤ 1000000) :
    Calls Try.prog 104 #[.pointer (some ⟨cb, 2, none⟩), .iface 70 b.ptr] w fun e w' => e = .returned (.tuple #[]) ∧ ∃ v', HQ w' cb (Cc.setIfInBounds 2 v') (Q ++ [b]) v' ∧ v' ≠ .slice none 0 0 ∧
      (v'.ownBlock = v.ownBlock ∨ ∃ g, v'.ownBlock = some g ∧ w.heap.size ≤ g) ∧ Fr (fun x => x = cb ∨ x = b.blk ∨ v.ownBlock = some x) w w' := by
  unfold Bf.ptr
  obtain ⟨a, c, rfl⟩ := h.shape
  obtain ⟨i0, hi, hz0, hz1, hz2⟩ := info_parts infoPtr
  have c2 := cell_blk_some h.blk h.ptr
  have f2 := free_blk (i := 2) h.blk
  have p1 := cell_blk_some hbl (Bf.at_placed hb i)
  have p2 := free_blk (i := 69) hbl
  obtain ⟨w1, hw1⟩ : ∃ w1, w1 = w.setCell ⟨b.blk, 69, none⟩ (.int .i64 Q.length) := ⟨_, rfl⟩
  have k1 : w1.heap[cb]? = some (.cells Cc 69 (0, 0)) := by rw [hw1]; exact blk_set_other h.blk (Ne.symm h2) _
  have n1 : w1.heap[b.blk]? = some (.cells (b.cells Q.length) 74 (0, 0)) := by
    have := blk_set (i := 69) hbl (.int .i64 Q.length)
    rw [Bf.place hb] at this
    rw [hw1]; exact this
  have fr1 : Fr (fun x => x = cb ∨ x = b.blk ∨ (Value.slice a Q.length c).ownBlock = some x) w w1 := by rw [hw1]; exact (Fr.refl _ w).setCell _ (.inr (.inl rfl)) _
  have oth : ∀ x o, x ≠ b.blk → w.heap[x]? = some o → w1.heap[x]? = some o := fun x o hx ho => by rw [hw1]; exact blk_set_other ho hx _
  have own1 : w1.ownsRow 0 70 1 (.slice a Q.length c) Q.length (Q.map Bf.ptr) := by
    refine ⟨h.own.1, ?_⟩
    rcases h.own.2 with hn | ⟨g, cap, cur, he, h0, hg, r⟩
    · exact .inl hn
    · refine .inr ⟨g, cap, cur, he, h0, oth g _ ?_ hg, r⟩
      rintro rfl
      apply h3; rw [he]; rfl
  have own2 := own1.alloc (Obj.cells #[Value.pointer (some ⟨b.blk, 0, none⟩)] 70)
  have hsz : w1.heap.size = w.heap.size := by rw [hw1]; simp
  have hcb := blk_lt k1
  have H := Lib.hid h; have K1 := Lib.hid k1; have N1 := Lib.hid n1; have F1 := Lib.hid fr1; have OT := Lib.hid oth; have HS := Lib.hid hsz; have H3 := Lib.hid h3; have H1 := Lib.hid h1
  have c3 := cell_blk_some k1 h.ptr
  have f3 := free_blk (i := 2) k1
  have hw2 := hw1.symm
  have OW := Lib.hid own2
  clear h k1 n1 fr1 oth hsz h3 h1 hbl own1 hw1 own2
  have ta := assert_buf
  go_enter Try.func104, Try.ntmps104
  go_wp2_with (at_builtin; refine wpList_append_own_at _ rfl _ _ 67 rfl 0 70 i0 (.pointer none) 1 8 Try.underlying67 hi hz0 hz1 hz2 rfl (by decide) _ _ _ rfl OW.out ⟨w1.heap.size, 0, none⟩ 1 1 [.pointer (some ⟨b.blk, 0, none⟩)] rfl rfl ?c1 ?c2 ?c3 ?c4 ?c5 ?_)
  case c1 => exact cell_one_new _ _ _
  case c2 => intro u hu; simp at hu; subst hu; rfl
  case c3 => unfold maxLen; omega
  case c4 => omega
  case c5 => exact Nat.zero_le _
  intro v' w2 hown2 hgr _ hat
  obtain ⟨g, cap, rfl⟩ : ∃ g cap, v' = .slice (some ⟨g, 0, none⟩) (Q.length + 1) cap := by
    rcases hown2.2 with ⟨_, h0⟩ | ⟨g, cap, cur, he, _⟩
    · omega
    · exact ⟨g, cap, he⟩
  have hown : ∀ x, (Value.slice a Q.length c).ownBlock = some x → x ≠ cb ∧ x < w1.heap.size := fun x hx => by
    refine ⟨(H.out.off2 x hx).1, ?_⟩
    rw [HS.out]; exact (H.out.own.lt x hx).2
  have hgn : g ≠ cb := by
    rcases hat with he | he
    · exact (hown g he.symm).1
    · (have hg : g = w1.heap.size + 1 := by simpa [Value.ownBlock] using he); omega
  have hto : ∀ x o, x < w1.heap.size → (Value.slice a Q.length c).ownBlock ≠ some x → w1.heap[x]? = some o → w2.heap[x]? = some o := fun x o hx hn ho => by
    rw [hgr.block x (by simp; omega) (fun e => hn e.symm)]; exact blk_old ho
  have hcbn : (Value.slice a Q.length c).ownBlock ≠ some cb := fun e => (hown cb e).1 rfl
  have k2 := hto cb _ hcb hcbn K1.out
  have c4 := cell_blk_some k2 H.out.ptr
  have f4 := free_blk (i := 2) k2
  have fr2 : Fr (fun x => x = cb ∨ x = b.blk ∨ (Value.slice a Q.length c).ownBlock = some x) w w2 := F1.out.trans
    ⟨hgr.os, hgr.tape, hgr.output, Nat.le_trans (by simp) hgr.size, fun x hx hn => by
      rw [hgr.block x (by simp; omega) (fun e => hn (.inr (.inr e.symm)))]
      show (w1.heap.push _)[_]? = _
      rw [Array.getElem?_push, if_neg (by omega)]⟩
  have n2 := hto b.blk _ (blk_lt N1.out) H3.out N1.out
  have OWN := Lib.hid hown2; have HAT := Lib.hid hat; have HTO := Lib.hid hto; have K2 := Lib.hid k2; have N2 := Lib.hid n2; have F2 := Lib.hid fr2; have HOWN := Lib.hid hown
  clear hown2 hgr hat hto k2 n2 fr2 hown hw2 c2 f2 c3 f3 p1 p2 OW
  go_wp2_with fail
  go_end0
  have hset : ∀ x o, x ≠ cb → w2.heap[x]? = some o → (w2.setCell ⟨cb, 2, none⟩ (.slice (some ⟨g, 0, none⟩) (Q.length + 1) cap)).heap[x]? = some o := fun x o hx ho => blk_set_other ho hx _
  have hblks : (Q ++ [b]).map (·.blk) = Q.map (·.blk) ++ [b.blk] := by simp
  refine ⟨rfl, .slice (some ⟨g, 0, none⟩) (Q.length + 1) cap, ⟨blk_set K2.out _, ?_, ?_, ?_, ?_, ?_, ?_⟩, by simp, ?_, F2.out.setCell _ (.inl rfl) _⟩
  · rw [Array.getElem?_setIfInBounds, if_pos rfl, if_pos (by omega)]
  · refine ⟨by simp, ?_⟩
    rcases OWN.out.2 with ⟨_, h0⟩ | ⟨g2, cap2, cur, he, h0, hg, r1, r2, r3, r4⟩
    · omega
    · injection he with he1 _ he3
      simp only [Option.some.injEq, Addr.mk.injEq] at he1
      obtain ⟨rfl, _, _⟩ := he1
      subst he3
      refine .inr ⟨g, cap, cur, by simp, h0, hset g _ hgn hg, by simpa using r1, r2, r3, ?_⟩
      rw [List.length_append, List.length_singleton, r4, List.map_append]; rfl
  · intro j x hx
    by_cases hj : j < Q.length
    · rw [List.getElem?_append_left hj] at hx
      have hbx := H.out.buf j x hx
      have hm : x.blk ∈ Q.map (·.blk) := List.mem_map.2 ⟨x, List.mem_of_getElem? hx, rfl⟩
      refine ⟨hbx.1, hset _ _ (fun e => H.out.off1 (e ▸ hm)) (HTO.out _ _ ?_ (fun e => (H.out.off2 _ e).2 hm) (OT.out _ _ (fun e => H1.out (e ▸ hm)) hbx.2))⟩
      rw [HS.out]; exact blk_lt hbx.2
    · have hjl : j = Q.length := by
        have := (List.getElem?_eq_some_iff.1 hx).1
        simp at this; omega
      subst hjl
      rw [List.getElem?_append_right (Nat.le_refl _), Nat.sub_self] at hx
      obtain rfl : b = x := by simpa using hx
      exact ⟨hb, hset _ _ h2 N2.out⟩
  · rw [hblks, List.nodup_append]
    exact ⟨H.out.nodup, by simp, fun x hx y hy => by simp at hy; subst hy; exact fun e => H1.out (e ▸ hx)⟩
  · rw [hblks, List.mem_append]
    rintro (hx | hx)
    · exact H.out.off1 hx
    · simp at hx; exact h2 hx.symm
  · intro y hy
    simp only [Value.ownBlock, Option.some.injEq] at hy
    subst hy
    refine ⟨hgn, ?_⟩
    rw [hblks, List.mem_append]
    rcases HAT.out with he | he
    · rintro (hx | hx)
      · exact (H.out.off2 g he.symm).2 hx
      · simp at hx; exact H3.out (hx ▸ he.symm)
    · have hg : g = w1.heap.size + 1 := by simpa [Value.ownBlock] using he
      rintro (hx | hx)
      · obtain ⟨x, hxm, hxe⟩ := List.mem_map.1 hx
        obtain ⟨j, hj⟩ := List.mem_iff_getElem?.1 hxm
        have := blk_lt (H.out.buf j x hj).2
        rw [HS.out] at hg; omega
      · simp at hx
        have := blk_lt N1.out
        omega
  · rcases HAT.out with he | he
    · exact .inl he
    · refine .inr ⟨g, rfl, ?_⟩
      have hg : g = w1.heap.size + 1 := by simpa [Value.ownBlock] using he
      rw [HS.out] at hg; omega
end Go.Proofs.Ytjldocpjoiibjaa
