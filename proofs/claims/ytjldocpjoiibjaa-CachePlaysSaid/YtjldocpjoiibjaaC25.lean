/- Walk of the cache's Order. -/
import Derived.Test.YtjldocpjoiibjaaC24
namespace Go.Proofs.Ytjldocpjoiibjaa
open Go.RowKit

/-- Keys as cells. -/
def flatK (l : List (Int × Int)) : List Value := l.flatMap fun k => [.int .i64 k.1, .int .i64 k.2]
theorem flatK_length (l : List (Int × Int)) : (flatK l).length = l.length * 2 := by
  induction l with
  | nil => rfl
  | cons a l ih => simp [flatK] at ih ⊢; omega
theorem flatK_append (a b : List (Int × Int)) : flatK (a ++ b) = flatK a ++ flatK b := by simp [flatK]
theorem flatK_one (l : List (Int × Int)) : ∀ u ∈ flatK l, u.oneCell' = true := fun u hu => by
  obtain ⟨k, _, hk⟩ := List.mem_flatMap.1 hu
  simp at hk
  rcases hk with rfl | rfl <;> rfl
theorem own_shape {w : World} {B n sz : Nat} {e : TypeId} {v : Value} {xs : List Value} (h : w.ownsRow B e sz v n xs) : ∃ a c, v = .slice a n c := by
  rcases h.2 with ⟨rfl, rfl⟩ | ⟨g, cap, cur, rfl, _⟩
  · exact ⟨_, _, rfl⟩
  · exact ⟨_, _, rfl⟩
theorem infoKey : (Try.prog.info? 29).map (fun i => (i.zero, i.size, i.bytes)) = some (some (.agg #[.int .i64 0, .int .i64 0]), 2, 16) := by kernel_rfl
theorem Bf.at_k1 (b : Bf) (i : Int) : (b.cells i)[0]? = some (.int .i64 b.k1) := rfl
theorem Bf.at_k2 (b : Bf) (i : Int) : (b.cells i)[1]? = some (.int .i64 b.k2) := rfl

set_option maxHeartbeats 4000000 in
set_option maxRecDepth 100000 in
theorem cOrder_any {w : World} {cb : Nat} {room stamp s : Int} {Q L : List Bf} {F : Nat → Prop} (h : CAt w cb room stamp Q F) (hL : Lru Q s L) (hl : Q.length ≤ 1000000) :
    Calls Try.prog 17 #[.pointer (some ⟨cb, 0, none⟩)] w fun e w' => ∃ v', e = .returned v' ∧ w'.ownsRow w.heap.size 29 2 v' L.length (flatK (L.map Bf.key)) ∧ Below w.heap.size w w' := by
  obtain ⟨mb, v, E, h⟩ := h
  obtain ⟨i0, hi, hz0, hz1, hz2⟩ := info_parts infoKey
  have hcl := cloneQ_any (w := w) h.hq.own hl
  have c2 : w.cell? ⟨cb, 2, none⟩ = some v := cell_blk_some h.hq.blk rfl
  obtain ⟨a, c, rfl⟩ := h.hq.shape
  have hbuf : ∀ b ∈ Q, ∃ i, BufAt w b i := fun b hb => by
    obtain ⟨i, hi⟩ := List.mem_iff_getElem?.1 hb
    exact ⟨i, h.hq.buf i b hi⟩
  have HLEN := Lib.hid hL.perm.length_eq
  have HC := Lib.hid hcl; have HB := Lib.hid hbuf; have HL := Lib.hid hL; have HH := Lib.hid h
  clear hcl hbuf hL h
  go_enter Try.func17, Try.ntmps17
  go_wp2_with fail
  refine HC.out.mono ?_
  rintro e w1 ⟨v1, rfl, hown, hb1⟩
  -- what the sort makes of the row
  have hsort : ∃ a1 c1, v1 = .slice a1 Q.length c1 ∧ Calls Try.prog 36 #[v1, .func (.func 37) #[] #[]] w1 fun e w2 =>
      e = .returned (.tuple #[]) ∧ Below w.heap.size w w2 ∧ (∀ b ∈ Q, ∃ i, BufAt w2 b i) ∧ (0 < Q.length → ∃ g, a1 = some ⟨g, 0, none⟩ ∧ ∀ i b, L[i]? = some b → w2.cell? ⟨g, i, none⟩ = some b.ptr) := by
    have hbb : ∀ b ∈ Q, ∃ i, BufAt w1 b i := fun b hb => by
      obtain ⟨i, h1, h2⟩ := HB.out b hb
      exact ⟨i, h1, blk_below hb1 (blk_lt h2) h2⟩
    rcases Nat.eq_zero_or_pos Q.length with h0 | h0
    · obtain ⟨a1, c1, rfl⟩ : ∃ a1 c1, v1 = .slice a1 Q.length c1 := by
        rcases hown.2 with ⟨rfl, _⟩ | ⟨g, cap, cur, rfl, _⟩
        · exact ⟨none, 0, by rw [h0]⟩
        · exact ⟨_, _, rfl⟩
      refine ⟨a1, c1, rfl, ?_⟩
      have := sortBuf_none a1 c1 (.func (.func 37) #[] #[]) w1
      rw [← h0] at this
      refine this.mono ?_
      rintro e w2 ⟨rfl, rfl⟩
      exact ⟨rfl, hb1, hbb, fun h => by omega⟩
    · rcases hown.2 with ⟨rfl, hn⟩ | ⟨g, cap, cur, rfl, hgB, hg, hnc, hcm, hcs, htk⟩
      · omega
      · refine ⟨_, _, rfl, ?_⟩
        have hcells : ∀ i b, Q[i]? = some b → w1.cell? ⟨g, i, none⟩ = some b.ptr := fun i b hi => by
          have hil := (List.getElem?_eq_some_iff.1 hi).1
          have : (Q.map Bf.ptr)[i]? = some b.ptr := by rw [List.getElem?_map, hi]; rfl
          rw [← htk, List.getElem?_take, if_pos (by omega), Array.getElem?_toList] at this
          exact cell_blk_some hg this
        refine (sortBuf_any (cap := cap) h0 hl hcells (fun i => free_blk hg) (blk_lt hg) (fun b hb => ?_)).mono ?_
        · refine ⟨?_, hbb b hb⟩
          obtain ⟨i, _, h2⟩ := HB.out b hb
          have := blk_lt h2
          omega
        · rintro e w2 ⟨rfl, M, hM1, hM2, hM3, hM4⟩
          have hML : L = M := sorted_unique L M (HL.out.perm.symm.trans hM1.symm) HL.out.sorted hM2
          subst hML
          have hbl2 : Below w.heap.size w w2 := hb1.trans (hM3.toBelow (B := w.heap.size) hb1.size (fun x hx => by have : x = g := hx; omega))
          exact ⟨rfl, hbl2, fun b hb => by
            obtain ⟨i, h1, h2⟩ := HB.out b hb
            exact ⟨i, h1, blk_below hbl2 (blk_lt h2) h2⟩, fun _ => ⟨g, rfl, hM4⟩⟩
  obtain ⟨a1, c1, rfl, hsort⟩ := hsort
  have HS := Lib.hid hsort
  clear hsort hown hb1 c2
  go_wp2_with fail
  refine HS.out.mono ?_
  rintro e w2 ⟨rfl, hbel, hbf, hrow⟩
  have HBEL := Lib.hid hbel; have HBF := Lib.hid hbf; have HROW := Lib.hid hrow
  clear hbel hbf hrow HS HC HB
  go_wp2_with fail
  go_loopw [4, 16] (fun o i wr => ∃ k : Nat, k ≤ Q.length ∧ i = .int .i64 k ∧ wr.ownsRow w2.heap.size 29 2 o k (flatK ((L.map Bf.key).take k)) ∧ Below w2.heap.size w2 wr) (fun _ i _ => Q.length - (intOf i).toNat)
  case atStart => exact ⟨0, Nat.zero_le _, rfl, ⟨rfl, .inl ⟨rfl, rfl⟩⟩, Below.refl _ _⟩
  case round =>
    obtain ⟨k, hk, rfl, hown, hbel⟩ := hrel
    by_cases hlt : k < Q.length
    · obtain ⟨g, rfl, hcells⟩ := HROW.out (by omega)
      obtain ⟨b, hb⟩ : ∃ b, L[k]? = some b := ⟨_, List.getElem?_eq_getElem (by have := HLEN.out; omega)⟩
      have hbQ := HL.out.perm.mem_iff.2 (List.mem_of_getElem? hb)
      obtain ⟨ib, hb1, hb2⟩ := HBF.out b hbQ
      have hg2 := hcells k b hb
      have hgl : g < w2.heap.size := by
        unfold World.cell? at hg2
        cases hx : w2.heap[g]? with
        | none => simp [hx] at hg2
        | some ob => exact blk_lt hx
      have e1 : wr.cell? ⟨g, k, none⟩ = some (.pointer (some ⟨b.blk, 0, none⟩)) := (World.cell?_of_block (w := w2) (a := ⟨g, k, none⟩) (hbel.block g hgl)).trans hg2
      have hbr := blk_below hbel (blk_lt hb2) hb2
      have d0 := cell_blk_some hbr (Bf.at_k1 b ib)
      have d1 := cell_blk_some hbr (Bf.at_k2 b ib)
      have m1 : (k : Int) < (Q.length : Int) := by omega
      have m2 : (0 : Int) ≤ (k : Int) := by omega
      obtain ⟨a4, c4, hsh⟩ := own_shape hown
      subst hsh
      have hnew := hown.alloc (.cells #[.int .i64 b.k1, .int .i64 b.k2] 29)
      have HNEW := Lib.hid hnew; have HBL := Lib.hid hbel; have HBK := Lib.hid hb
      clear hown hnew hbel hb hcells hb2 hbr hg2 hbQ hb1
      go_wp2_with (at_builtin; refine wpList_append_own _ rfl _ _ 39 rfl w2.heap.size 29 i0 (.agg #[.int .i64 0, .int .i64 0]) 2 16 Try.underlying39 hi hz0 hz1 hz2 rfl (by decide) _ _ _ rfl HNEW.out ⟨wr.heap.size, 0, none⟩ 1 1 [.int .i64 b.k1, .int .i64 b.k2] rfl rfl ?c1 ?c2 ?c3 ?c4 ?c5 ?_)
      case c1 => exact row_cells (blk_new rfl) fun j u hu => by simpa using hu
      case c2 => exact flatK_one [b.key]
      case c3 => unfold maxLen; omega
      case c4 => omega
      case c5 => simp; exact Nat.le_succ_of_le HBL.out.size
      intro v' w4 hown2 hgr2 _
      have hbw : Below w2.heap.size w2 w4 := (below_alloc HBL.out (Nat.le_refl _) (Obj.cells #[.int .i64 b.k1, .int .i64 b.k2] 29)).grown hgr2 (by simp; exact Nat.le_succ_of_le HBL.out.size) (fun k hk => (HNEW.out.lt k hk).1)
      have hfl : flatK ((L.map Bf.key).take k) ++ [.int .i64 b.k1, .int .i64 b.k2] = flatK ((L.map Bf.key).take (k + 1)) := by
        rw [List.take_add_one, List.getElem?_map, HBK.out, flatK_append]; rfl
      rw [hfl] at hown2
      have HOW := Lib.hid hown2; have HBW := Lib.hid hbw
      clear hown2 hbw hgr2 hfl HNEW e1 d0 d1
      go_wp2_with fail
      go_round
      case rel => exact ⟨k + 1, by omega, by go_num, HOW.out, HBW.out⟩
      case measure => simp [intOf]; omega
    · obtain rfl : k = Q.length := by omega
      have HOW := Lib.hid hown; have HBW := Lib.hid hbel
      clear hown hbel
      go_wp2_with fail
      go_ret
      have h1 := HOW.out
      rw [show (L.map Bf.key).take Q.length = L.map Bf.key by rw [HLEN.out, ← List.length_map (f := Bf.key), List.take_length]] at h1
      rw [← HLEN.out]
      refine ⟨_, rfl, ?_, below_call HBEL.out HBW.out (Nat.le_refl _)⟩
      refine ⟨h1.1, h1.2.imp id fun ⟨g, cap, cur, x1, x2, x3⟩ => ⟨g, cap, cur, x1, Nat.le_trans HBEL.out.size x2, x3⟩⟩
end Go.Proofs.Ytjldocpjoiibjaa
