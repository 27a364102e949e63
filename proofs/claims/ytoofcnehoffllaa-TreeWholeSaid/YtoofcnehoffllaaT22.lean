/- Walk of Stat. -/
import Derived.Test.YtoofcnehoffllaaT21
namespace Go.Proofs.Ytoofcnehoffllaa
open Go.RowKit

section
variable {w w' : World} {tb nb cap : Nat} {P E : Nat → Option Nat} {V : Nat → Value} {M : TM}
set_option maxHeartbeats 4000000 in
set_option maxRecDepth 100000 in
theorem stat_any {F : Nat → Prop} (hAt : TAt w tb cap F M) (hG : TG M cap) (s : ByteArray) (hs : s.size ≤ 1000000) :
    Calls Try.prog 18 #[.pointer (some ⟨tb, 0, none⟩), .string s] w fun e w' => e = .returned (.tuple #[statV (statN M s).1, .int .i64 (statN M s).2]) ∧ Below w.heap.size w w' := by
  obtain ⟨nb, P, E, V, h, hFt⟩ := hAt
  have hb0 : Below w.heap.size w (w.alloc (.cells #[.int .i64 0, .int .i64 0, .int .i64 0, .int .i64 0] 39)) := (Below.refl _ w).alloc (Nat.le_refl _) _
  have HB0 := Lib.hid hb0
  have OB : Hid ((w.alloc (.cells #[.int .i64 0, .int .i64 0, .int .i64 0, .int .i64 0] 39)).heap[w.heap.size]? = some (.cells #[.int .i64 0, .int .i64 0, .int .i64 0, .int .i64 0] 39 (0, 0))) := Lib.hid (blk_new rfl)
  have HF := Lib.hid (look_any (h.below hb0) s hs)
  have HT := Lib.hid h; have HG := Lib.hid hG
  have HW : Hid (statN M s = match lookN M s with
    | .inr c => ((0, 0, 0, 0), c)
    | .inl i => (((i : Int), (if isDir M i then 2 else 1), lkN M i, ((datN M i).length : Int)), 0)) := Lib.hid rfl
  clear hFt h hG hs hb0
  cases hq : lookN M s with
  | inr c =>
    have hc := look_code hq
    have HRES : Hid (statN M s = ((0, 0, 0, 0), c)) := Lib.hid (by rw [HW.out, hq])
    rw [hq] at HF
    have hc2 : (c != 0) = true := by simp [hc]
    clear hq hc HW
    unfold leadV at HF
    go_enter Try.func18, Try.ntmps18
    go_wp2_with fail
    generalize w.alloc (.cells #[.int .i64 0, .int .i64 0, .int .i64 0, .int .i64 0] 39) = w0 at *
    refine HF.out.mono ?_
    rintro e w1 ⟨rfl, hb1⟩
    have ob := (hb1.block _ (blk_lt OB.out)).trans OB.out
    have OB1 := Lib.hid ob
    have HB1 := Lib.hid (below_call HB0.out hb1 (Nat.le_refl _))
    have d0 := cell_blk_some ob (i := 0) rfl
    have d1 := cell_blk_some ob (i := 1) rfl
    have d2 := cell_blk_some ob (i := 2) rfl
    have d3 := cell_blk_some ob (i := 3) rfl
    have f0 := free_blk (i := 0) ob
    have f1 := free_blk (i := 1) ob
    have f2 := free_blk (i := 2) ob
    have f3 := free_blk (i := 3) ob
    clear hb1 HF ob OB
    go_wp2_with fail
    have hfin := blk_set (i := 3) (blk_set (i := 2) (blk_set (i := 1) (blk_set (i := 0) OB1.out (.int .i64 0)) (.int .i64 0)) (.int .i64 0)) (.int .i64 0)
    refine bodyPost_ret (results_row_tmp rfl _ _ w.heap.size _ _ _ _ rfl hfin Try.underlying39 rfl (by kernel_rfl)) rfl ?_
    exact ⟨by rw [HRES.out]; rfl, (((HB1.out.setCell (Nat.le_refl _) _).setCell (Nat.le_refl _) _).setCell (Nat.le_refl _) _).setCell (Nat.le_refl _) _⟩
  | inl i =>
    have hi := look_isin HT.out hq
    obtain ⟨nd, hm⟩ := Option.isSome_iff_exists.1 hi
    obtain ⟨b, hp, _⟩ := HT.out.at_ hm
    have HLV : leadV P (.inl i) = .tuple #[.pointer (some ⟨b, 0, none⟩), .int .i64 0] := by show Value.tuple #[nptr (P i), _] = _; rw [hp]; rfl
    have hres : statN M s = (((i : Int), (if isDir M i then 2 else 1), nd.links, (nd.data.length : Int)), 0) := by rw [HW.out, hq, ← lkN_of hm, ← datN_of hm]
    rw [hq, HLV] at HF
    have HM := Lib.hid hm; have HP := Lib.hid hp; have HI := Lib.hid hi; have HRES := Lib.hid hres
    clear hq hi hm hp HLV HW hres
    go_enter Try.func18, Try.ntmps18
    go_wp2_with fail
    generalize w.alloc (.cells #[.int .i64 0, .int .i64 0, .int .i64 0, .int .i64 0] 39) = w0 at *
    refine HF.out.mono ?_
    rintro e w1 ⟨rfl, hb1⟩
    have ob := (hb1.block _ (blk_lt OB.out)).trans OB.out
    have OB1 := Lib.hid ob
    have HB1 := Lib.hid (below_call HB0.out hb1 (Nat.le_refl _))
    have HD := Lib.hid (dir_any (HT.out.below HB1.out) HI.out)
    rw [HP.out] at HD
    unfold nptr at HD
    have hn1 := (HT.out.below HB1.out).node i b nd HP.out HM.out
    have hd1 := (HT.out.below HB1.out).data i nd HM.out
    obtain ⟨va, vc, hva⟩ := own_shape hd1
    rw [hva] at hn1
    have c0 := cell_blk_some hn1 (i := 0) rfl
    have c2 := cell_blk_some hn1 (i := 2) rfl
    have c3 := cell_blk_some hn1 (i := 3) rfl
    have d0 := cell_blk_some ob (i := 0) rfl
    have d1 := cell_blk_some ob (i := 1) rfl
    have d2 := cell_blk_some ob (i := 2) rfl
    have d3 := cell_blk_some ob (i := 3) rfl
    have f0 := free_blk (i := 0) ob
    have f1 := free_blk (i := 1) ob
    have f2 := free_blk (i := 2) ob
    have f3 := free_blk (i := 3) ob
    clear hb1 HF ob OB hn1 hd1 hva
    generalize isDir M i = di at *
    cases di
    · go_wp2_with fail
      refine HD.out.mono ?_
      rintro e w2 ⟨rfl, hw2⟩
      obtain rfl := hw2.symm
      go_wp2_with fail
      go_region_law (fail)
      all_goals
        go_wp2_with fail
        have hfin := blk_set (i := 3) (blk_set (i := 2) (blk_set (i := 1) (blk_set (i := 0) OB1.out (.int .i64 i)) (.int .i64 1)) (.int .i64 nd.links)) (.int .i64 nd.data.length)
        refine bodyPost_ret (results_row_tmp rfl _ _ w.heap.size _ _ _ _ rfl hfin Try.underlying39 rfl (by kernel_rfl)) rfl ?_
        exact ⟨by rw [HRES.out]; rfl, below_drewN ((((HB1.out.setCell (Nat.le_refl _) _).setCell (Nat.le_refl _) _).setCell (Nat.le_refl _) _).setCell (Nat.le_refl _) _) 1⟩
    · go_wp2_with fail
      refine HD.out.mono ?_
      rintro e w2 ⟨rfl, hw2⟩
      obtain rfl := hw2.symm
      go_wp2_with fail
      go_region_law (fail)
      all_goals
        go_wp2_with fail
        have hfin := blk_set (i := 3) (blk_set (i := 2) (blk_set (i := 1) (blk_set (i := 0) OB1.out (.int .i64 i)) (.int .i64 2)) (.int .i64 nd.links)) (.int .i64 nd.data.length)
        refine bodyPost_ret (results_row_tmp rfl _ _ w.heap.size _ _ _ _ rfl hfin Try.underlying39 rfl (by kernel_rfl)) rfl ?_
        exact ⟨by rw [HRES.out]; rfl, below_drewN ((((HB1.out.setCell (Nat.le_refl _) _).setCell (Nat.le_refl _) _).setCell (Nat.le_refl _) _).setCell (Nat.le_refl _) _) 1⟩
end
end Go.Proofs.Ytoofcnehoffllaa
