/- Walk of the cache's Dirty. -/
import Derived.Test.YtjldocpjoiibjaaC42
namespace Go.Proofs.Ytjldocpjoiibjaa
open Go.RowKit

def dirtyK (Q : List Bf) : List (Int × Int) := (Q.filter (·.dirty)).map Bf.key
theorem dirtyK_step {Q : List Bf} {k : Nat} {b : Bf} (h : Q[k]? = some b) : dirtyK (Q.take (k + 1)) = if b.dirty then dirtyK (Q.take k) ++ [b.key] else dirtyK (Q.take k) := by
  rw [List.take_add_one, h]
  unfold dirtyK
  simp only [Option.toList_some, List.filter_append, List.filter_cons, List.filter_nil, List.map_append]
  cases b.dirty <;> simp
theorem dirtyK_le (Q : List Bf) (k : Nat) : (dirtyK (Q.take k)).length ≤ k := by
  unfold dirtyK
  rw [List.length_map]
  exact Nat.le_trans (List.length_filter_le _ _) (List.length_take_le _ _)

set_option maxHeartbeats 4000000 in
set_option maxRecDepth 100000 in
theorem cDirty_any {w : World} {cb : Nat} {room stamp : Int} {Q : List Bf} {F : Nat → Prop} (h : CAt w cb room stamp Q F) (hl : Q.length ≤ 900000) :
    Calls Try.prog 25 #[.pointer (some ⟨cb, 0, none⟩)] w fun e w' => ∃ (a : Option Addr) (c : Nat) (M : List (Int × Int)), e = .returned (.slice a M.length c) ∧
      (0 < M.length → ∃ g, a = some ⟨g, 0, none⟩ ∧ w.heap.size ≤ g ∧ KeysAt w' g M) ∧ Below w.heap.size w w' ∧ M.Perm (dirtyK Q) ∧ M.Pairwise (fun a b => ¬ keyLt b a) := by
  obtain ⟨mb, v, E, h⟩ := h
  obtain ⟨i0, hi, hz0, hz1, hz2⟩ := info_parts infoKey
  have c2 : w.cell? ⟨cb, 2, none⟩ = some v := cell_blk_some h.hq.blk rfl
  have hrow : ∃ a c, v = .slice a Q.length c ∧ (0 < Q.length → ∃ g, a = some ⟨g, 0, none⟩ ∧ ∀ i b, Q[i]? = some b → w.cell? ⟨g, i, none⟩ = some b.ptr) := by
    obtain ⟨a, c, rfl⟩ := h.hq.shape
    refine ⟨a, c, rfl, fun h0 => ?_⟩
    rcases h.hq.own.2 with ⟨_, hn⟩ | ⟨g, cap, cur, he, hgB, hg, hnc, hcm, hcs, htk⟩
    · omega
    · obtain ⟨h1, -, -⟩ := Value.slice.inj he
      refine ⟨g, h1, fun i b hi => ?_⟩
      have hil := (List.getElem?_eq_some_iff.1 hi).1
      have : (Q.map Bf.ptr)[i]? = some b.ptr := by rw [List.getElem?_map, hi]; rfl
      rw [← htk, List.getElem?_take, if_pos (by omega), Array.getElem?_toList] at this
      exact cell_blk_some hg this
  obtain ⟨a, c, rfl, hcells⟩ := hrow
  have hbuf : ∀ (i : Nat) b, Q[i]? = some b → BufAt w b i := h.hq.buf
  have HC := Lib.hid hcells; have HB := Lib.hid hbuf
  clear hcells hbuf h
  go_enter Try.func25, Try.ntmps25
  go_wp2_with fail
  go_loopw [3, 11] (fun o i wr => ∃ k : Nat, k ≤ Q.length ∧ i = .int .i64 k ∧ wr.ownsRow w.heap.size 29 2 o (dirtyK (Q.take k)).length (flatK (dirtyK (Q.take k))) ∧ Below w.heap.size w wr) (fun _ i _ => Q.length - (intOf i).toNat)
  case atStart => exact ⟨0, Nat.zero_le _, rfl, ⟨rfl, .inl ⟨rfl, rfl⟩⟩, Below.refl _ _⟩
  case round =>
    obtain ⟨k, hk, rfl, hown, hbel⟩ := hrel
    by_cases hlt : k < Q.length
    · obtain ⟨g, rfl, hcells⟩ := HC.out (by omega)
      obtain ⟨b, hb⟩ : ∃ b, Q[k]? = some b := ⟨_, List.getElem?_eq_getElem hlt⟩
      obtain ⟨hb1, hb2⟩ := HB.out k b hb
      have hg2 := hcells k b hb
      have hgl : g < w.heap.size := blk_of_cell hg2
      have e1 : wr.cell? ⟨g, k, none⟩ = some (.pointer (some ⟨b.blk, 0, none⟩)) := (World.cell?_of_block (w := w) (a := ⟨g, k, none⟩) (hbel.block g hgl)).trans hg2
      have hbr := blk_below hbel (blk_lt hb2) hb2
      have d0 := cell_blk_some hbr (Bf.at_k1 b k)
      have d1 := cell_blk_some hbr (Bf.at_k2 b k)
      have d66 := cell_blk_some hbr (Bf.at_dirty hb1 k)
      have m1 : (k : Int) < (Q.length : Int) := by omega
      have m2 : (0 : Int) ≤ (k : Int) := by omega
      have hst := dirtyK_step hb
      obtain ⟨a4, c4, hsh⟩ := own_shape hown
      subst hsh
      have HBL := Lib.hid hbel; have HOWN := Lib.hid hown
      clear hown hbel hb hcells hb2 hbr hg2 hb1 hgl
      cases hd : b.dirty
      · rw [hd, if_neg (by simp)] at hst
        rw [hd] at d66
        have HST := Lib.hid hst
        clear hst
        go_wp2_with fail
        go_round
        case rel => exact ⟨k + 1, by omega, by go_num, by rw [HST.out]; exact HOWN.out, HBL.out⟩
        case measure => simp [intOf]; omega
      · rw [hd, if_pos rfl] at hst
        rw [hd] at d66
        have hnew := HOWN.out.alloc (.cells #[.int .i64 b.k1, .int .i64 b.k2] 29)
        have HNEW := Lib.hid hnew; have HST := Lib.hid hst
        have hle := dirtyK_le Q k
        generalize hT : dirtyK (Q.take k) = T at HNEW hle ⊢
        clear hnew hst
        go_wp2_with (at_builtin; refine wpList_append_own _ rfl _ _ 39 rfl w.heap.size 29 i0 (.agg #[.int .i64 0, .int .i64 0]) 2 16 Try.underlying39 hi hz0 hz1 hz2 rfl (by decide) _ _ _ rfl HNEW.out ⟨wr.heap.size, 0, none⟩ 1 1 [.int .i64 b.k1, .int .i64 b.k2] rfl rfl ?c1 ?c2 ?c3 ?c4 ?c5 ?_)
        case c1 => exact row_cells (blk_new rfl) fun j u hu => by simpa using hu
        case c2 => exact flatK_one [b.key]
        case c3 => unfold maxLen; omega
        case c4 => omega
        case c5 => simp; exact Nat.le_succ_of_le HBL.out.size
        intro v' w4 hown2 hgr2 _
        have hbw : Below w.heap.size w w4 := (below_alloc HBL.out (Nat.le_refl _) (Obj.cells #[.int .i64 b.k1, .int .i64 b.k2] 29)).grown hgr2 (by simp; exact Nat.le_succ_of_le HBL.out.size) (fun k hk => (HNEW.out.lt k hk).1)
        have hfl : flatK T ++ [.int .i64 b.k1, .int .i64 b.k2] = flatK (dirtyK (Q.take (k + 1))) := by rw [HST.out, hT, flatK_append]; rfl
        have hfn : T.length + 1 = (dirtyK (Q.take (k + 1))).length := by rw [HST.out, hT]; simp
        rw [hfl, hfn] at hown2
        have HOW := Lib.hid hown2; have HBW := Lib.hid hbw
        clear hown2 hbw hgr2 hfl hfn HNEW e1 d0 d1 d66
        go_wp2_with fail
        go_round
        case rel => exact ⟨k + 1, by omega, by go_num, HOW.out, HBW.out⟩
        case measure => simp [intOf]; omega
    · obtain rfl : k = Q.length := by omega
      rw [List.take_length] at hown
      have hle : (dirtyK Q).length ≤ Q.length := by have := dirtyK_le Q Q.length; rwa [List.take_length] at this
      have hsort : ∃ a1 c1, u3 = .slice a1 (dirtyK Q).length c1 ∧ Calls Try.prog 43 #[u3, .func (.func 44) #[] #[]] wr fun e w2 =>
          e = .returned (.tuple #[]) ∧ Below w.heap.size w w2 ∧ ∃ M : List (Int × Int), M.length = (dirtyK Q).length ∧ M.Perm (dirtyK Q) ∧ M.Pairwise (fun a b => ¬ keyLt b a) ∧ (0 < M.length → ∃ g, a1 = some ⟨g, 0, none⟩ ∧ w.heap.size ≤ g ∧ KeysAt w2 g M) := by
        rcases Nat.eq_zero_or_pos (dirtyK Q).length with h0 | h0
        · obtain ⟨a1, c1, rfl⟩ := own_shape hown
          refine ⟨a1, c1, rfl, ?_⟩
          have := sortKey_none a1 c1 (.func (.func 44) #[] #[]) wr
          rw [← h0] at this
          refine this.mono ?_
          rintro e w2 ⟨rfl, rfl⟩
          have hn : dirtyK Q = [] := List.eq_nil_of_length_eq_zero h0
          exact ⟨rfl, hbel, [], by rw [hn], by rw [hn], .nil, fun h => by simp at h⟩
        · obtain ⟨g, cap, rfl, hgB, hka, hkl⟩ := keys_own hown h0
          refine ⟨_, _, rfl, ?_⟩
          have hfree : ∀ i, wr.frozen? ⟨g, i, none⟩ = false := fun i => by
            rcases hown.2 with ⟨_, hn⟩ | ⟨g', cap', cur, he, hgB', hg', _⟩
            · omega
            · obtain ⟨h1, -, -⟩ := Value.slice.inj he
              have : g = g' := by injection h1 with h1; injection h1
              subst this
              exact free_blk hg'
          refine (sortKey_any (cap := cap) (by omega) hka hfree).mono ?_
          rintro e w2 ⟨rfl, M, hM1, hM2, hM3, hM4⟩
          refine ⟨rfl, hbel.trans (hM3.toBelow (B := w.heap.size) hbel.size (fun x hx => by have : x = g := hx; omega)), M, hM1.length_eq, hM1, hM2, fun _ => ⟨g, rfl, hgB, hM4⟩⟩
      obtain ⟨a1, c1, rfl, hsort⟩ := hsort
      have HS := Lib.hid hsort
      clear hsort hown hbel
      go_wp2_with fail
      refine HS.out.mono ?_
      rintro e w2 ⟨rfl, hb2, M, hm1, hm2, hm3, hm4⟩
      have HB2 := Lib.hid hb2; have H1 := Lib.hid hm1; have H2 := Lib.hid hm2; have H3 := Lib.hid hm3; have H4 := Lib.hid hm4
      clear hb2 hm1 hm2 hm3 hm4 HS
      go_wp2_with fail
      go_ret
      refine ⟨a1, c1, M, ?_, H4.out, HB2.out, H2.out, H3.out⟩
      rw [H1.out]; rfl
end Go.Proofs.Ytjldocpjoiibjaa
