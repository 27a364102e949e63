/- Walk of tree's fresh. -/
/- Walk of tree's New. -/
/- A node more in a tree, in memory. -/
/- A node more in a tree: its memory. -/
import Derived.Test.YtoofcnehoffllaaGreatT6
import Derived.BigQuiet
import Derived.Laws.MakeOwn
namespace Go.Proofs.YtoofcnehoffllaaGreat
open Go.RowKit

def placeC (M : TM) (s : ByteArray) : Int := if parE s ≠ 0 then parE s else match leadN M 2 (parN s) with
  | .inr c => c
  | .inl p => if isDir M p then 0 else 20
/-- What is wrong with a new entry at a path. -/
def freshC (M : TM) (s : ByteArray) (dir : Bool) : Int := if placeC M s ≠ 0 then placeC M s else match leadN M 2 (parN s) with
  | .inr c => c
  | .inl p => if (entN M p (parL s)).isSome then 17 else if splitD s && !dir then 21 else if dir && decide (255 ≤ longN (parN s ++ [parL s])) then 36 else 0
section
variable {w : World} {tb nb cap : Nat} {P E : Nat → Option Nat} {V : Nat → Value} {M : TM}
/-- The two ways of a place. -/
theorem place_ways (h : TIn w tb nb cap P E V M) (s : ByteArray) :
    (placeC M s ≠ 0 ∧ ∃ o l b n, placeV P M s = .tuple #[placeA (.pointer o) l b n, .int .i64 (placeC M s)]) ∨
    (placeC M s = 0 ∧ ∃ p bp eb nd, leadN M 2 (parN s) = .inl p ∧ M p = some nd ∧ nd.dir = true ∧ P p = some bp ∧ E p = some eb ∧ placeV P M s = .tuple #[placeA (.pointer (some ⟨bp, 0, none⟩)) (parL s) (splitD s) (longN (parN s ++ [parL s])), .int .i64 0]) := by
  unfold placeC placeV
  by_cases hE : parE s = 0
  · rw [if_neg (by simp [hE]), if_neg (by simp [hE])]
    cases hq : leadN M 2 (parN s) with
    | inr c => exact .inl ⟨lead_code hq, _, _, _, _, rfl⟩
    | inl p =>
      have hi := look_there h hq
      obtain ⟨nd, hm⟩ := Option.isSome_iff_exists.1 hi
      obtain ⟨bp, hp, _⟩ := h.at_ hm
      dsimp only
      cases hd : isDir M p with
      | false => exact .inl ⟨by decide, _, _, _, _, rfl⟩
      | true =>
        have hnd : nd.dir = true := by rw [← h.isD hm, h.dirV hm, hd]
        obtain ⟨eb, he⟩ := Option.isSome_iff_exists.1 (by rw [h.isD hm]; exact hnd : (E p).isSome = true)
        refine .inr ⟨by decide, p, bp, eb, nd, rfl, hm, hnd, hp, he, ?_⟩
        rw [hp]; rfl
  · rw [if_pos hE, if_pos hE]
    exact .inl ⟨hE, _, _, _, _, rfl⟩
set_option maxHeartbeats 4000000 in
set_option maxRecDepth 100000 in
theorem fresh_any (h : TIn w tb nb cap P E V M) (s : ByteArray) (hs : s.size ≤ 1000000) (dir : Bool) :
    Calls Tryz.prog 44 #[.pointer (some ⟨tb, 0, none⟩), .string s, .bool dir] w fun e w' => (∃ pa, placeV P M s = .tuple #[pa, .int .i64 (placeC M s)] ∧ e = .returned (.tuple #[pa, .int .i64 (freshC M s dir)])) ∧ Below w.heap.size w w' := by
  have hb0 : Below w.heap.size w (w.alloc (.cells #[.pointer none, .string ⟨#[]⟩, .bool false, .int .i64 0] 102)) := (Below.refl _ w).alloc (Nat.le_refl _) _
  have HB0 := Lib.hid hb0
  have OB : Hid ((w.alloc (.cells #[.pointer none, .string ⟨#[]⟩, .bool false, .int .i64 0] 102)).heap[w.heap.size]? = some (.cells #[.pointer none, .string ⟨#[]⟩, .bool false, .int .i64 0] 102 (0, 0))) := Lib.hid (blk_new rfl)
  have HP := Lib.hid (place_any (h.below hb0) s hs)
  have HT := Lib.hid h
  have HC : Hid (freshC M s dir = if placeC M s ≠ 0 then placeC M s else match leadN M 2 (parN s) with
    | .inr c => c
    | .inl p => if (entN M p (parL s)).isSome then 17 else if splitD s && !dir then 21 else if dir && decide (255 ≤ longN (parN s ++ [parL s])) then 36 else 0) := Lib.hid rfl
  rcases place_ways h s with ⟨hc, o, l, b, n, hv⟩ | ⟨hc, p, bp, eb, nd, hl, hm, hd, hp, he, hv⟩
  · have hr : freshC M s dir = placeC M s := by rw [HC.out, if_pos hc]
    have HR := Lib.hid hr
    have HVV := Lib.hid hv
    have HVV := Lib.hid hv
    have HVV := Lib.hid hv
    have HVV := Lib.hid hv
    rw [hv] at HP
    generalize placeC M s = c at *
    have c1 : (c != 0) = true := by simp [hc]
    clear hr HC h hb0 hc hv HT
    unfold placeA at HP
    go_enter Tryz.func44, Tryz.ntmps44
    go_wp2_with fail
    generalize w.alloc (.cells #[.pointer none, .string ⟨#[]⟩, .bool false, .int .i64 0] 102) = w0 at *
    refine HP.out.mono ?_
    rintro e w1 ⟨rfl, hb1⟩
    have hba : Below w1.heap.size w1 (w1.alloc (.cells #[.pointer o, .string l, .bool b, .int .i64 n] 102)) := (Below.refl _ w1).alloc (Nat.le_refl _) _
    have ob := ((hba.block _ (blk_lt ((hb1.block _ (blk_lt OB.out)).trans OB.out))).trans ((hb1.block _ (blk_lt OB.out)).trans OB.out))
    have OB2 := Lib.hid ob
    have HB2 := Lib.hid (below_call (below_call HB0.out hb1 (Nat.le_refl _)) hba (Nat.le_refl _))
    have OX : Hid ((w1.alloc (.cells #[.pointer o, .string l, .bool b, .int .i64 n] 102)).heap[w1.heap.size]? = some (.cells #[.pointer o, .string l, .bool b, .int .i64 n] 102 (0, 0))) := Lib.hid (blk_new rfl)
    have d0 := cell_blk_some ob (i := 0) rfl
    have d1 := cell_blk_some ob (i := 1) rfl
    have d2 := cell_blk_some ob (i := 2) rfl
    have d3 := cell_blk_some ob (i := 3) rfl
    have f0 := free_blk (i := 0) ob
    have f1 := free_blk (i := 1) ob
    have f2 := free_blk (i := 2) ob
    have f3 := free_blk (i := 3) ob
    clear hb1 hba ob OB HP
    go_wp2_with fail
    have hfin := blk_set (i := 3) (blk_set (i := 2) (blk_set (i := 1) (blk_set (i := 0) OB2.out (.pointer o)) (.string l)) (.bool b)) (.int .i64 n)
    refine bodyPost_ret (results_row_tmp rfl _ _ w.heap.size _ _ _ _ rfl hfin Tryz.underlying102 rfl (by kernel_rfl)) rfl ?_
    exact ⟨⟨_, HVV.out, by rw [HR.out]; rfl⟩, (((HB2.out.setCell (Nat.le_refl _) _).setCell (Nat.le_refl _) _).setCell (Nat.le_refl _) _).setCell (Nat.le_refl _) _⟩
  · have hcode : freshC M s dir = if (entN M p (parL s)).isSome then 17 else if splitD s && !dir then 21 else if dir && decide (255 ≤ longN (parN s ++ [parL s])) then 36 else 0 := by rw [HC.out, if_neg (by simp [hc]), hl]
    have HCO := Lib.hid hcode
    have HVV : Hid (placeV P M s = .tuple #[placeA (.pointer (some ⟨bp, 0, none⟩)) (parL s) (splitD s) (longN (parN s ++ [parL s])), .int .i64 (placeC M s)]) := Lib.hid (by rw [hv, hc])
    rw [hv] at HP
    have HM := Lib.hid hm; have HD := Lib.hid hd; have HPP := Lib.hid hp; have HEE := Lib.hid he
    clear HC h hb0 hc hv hcode hl hm hd hp he
    unfold placeA at HP
    go_enter Tryz.func44, Tryz.ntmps44
    go_wp2_with fail
    generalize w.alloc (.cells #[.pointer none, .string ⟨#[]⟩, .bool false, .int .i64 0] 102) = w0 at *
    refine HP.out.mono ?_
    rintro e w1 ⟨rfl, hb1⟩
    have hba : Below w1.heap.size w1 (w1.alloc (.cells #[.pointer (some ⟨bp, 0, none⟩), .string (parL s), .bool (splitD s), .int .i64 (longN (parN s ++ [parL s]))] 102)) := (Below.refl _ w1).alloc (Nat.le_refl _) _
    have OB2 := Lib.hid ((hba.block _ (blk_lt ((hb1.block _ (blk_lt OB.out)).trans OB.out))).trans ((hb1.block _ (blk_lt OB.out)).trans OB.out))
    have HB2 := Lib.hid (below_call (below_call HB0.out hb1 (Nat.le_refl _)) hba (Nat.le_refl _))
    have OX : Hid ((w1.alloc (.cells #[.pointer (some ⟨bp, 0, none⟩), .string (parL s), .bool (splitD s), .int .i64 (longN (parN s ++ [parL s]))] 102)).heap[w1.heap.size]? = some (.cells #[.pointer (some ⟨bp, 0, none⟩), .string (parL s), .bool (splitD s), .int .i64 (longN (parN s ++ [parL s]))] 102 (0, 0))) := Lib.hid (blk_new rfl)
    clear hb1 hba OB HP HB0
    go_wp2_with fail
    generalize (w1.alloc (.cells #[.pointer (some ⟨bp, 0, none⟩), .string (parL s), .bool (splitD s), .int .i64 (longN (parN s ++ [parL s]))] 102)) = w2 at *
    generalize w1.heap.size = xb at *
    have HT2 := Lib.hid (HT.out.below HB2.out)
    obtain ⟨eb', he', hlk0⟩ := HT2.out.look HM.out HD.out (parL s)
    obtain rfl : eb = eb' := by
      have := HEE.out
      rw [he'] at this
      exact (Option.some.inj this).symm
    have HLK : Hid (∀ n, (Instr.lookup 69 (.map (some eb)) (.string (parL s)) false).run Tryz.prog (w2.drewN n) = .ok (nptr ((entN M p (parL s)).bind P)) (w2.drewN n)) := Lib.hid fun n => by
      obtain ⟨eb2, he2, hlk2⟩ := (HT2.out.below (below_drewN (Below.refl _ w2) n)).look HM.out HD.out (parL s)
      obtain rfl : eb = eb2 := by
        rw [he'] at he2
        exact Option.some.inj he2
      exact hlk2
    have hnb := HT2.out.node p bp nd HPP.out HM.out
    rw [HEE.out] at hnb
    have m1 := cell_blk_some hnb (i := 1) rfl
    have x0 := cell_blk_some OX.out (i := 0) rfl
    have x1 := cell_blk_some OX.out (i := 1) rfl
    have hsome : ∃ ob : Option Nat, (entN M p (parL s)).bind P = ob ∧ ob.isSome = (entN M p (parL s)).isSome := ⟨_, rfl, by
      cases hen : entN M p (parL s) with
      | none => rfl
      | some j =>
        show (P j).isSome = true
        rw [HT2.out.dom j]
        exact HT2.out.ok.ent p (parL s) j hen⟩
    obtain ⟨ob, hob, hobs⟩ := hsome
    rw [hob] at HLK
    rw [← hobs] at HCO
    have hlk := HLK.out
    clear hlk0 he' hob hobs hnb HT2 HLK
    unfold nptr at hlk
    cases ob with
    | some jb =>
      have hlk : ∀ n, (Instr.lookup 69 (.map (some eb)) (.string (parL s)) false).run Tryz.prog (w2.drewN n) = .ok (.pointer (some ⟨jb, 0, none⟩)) (w2.drewN n) := hlk
      go_quiet (fail)
      have OB3 := Lib.hid (show (w2.drewN nq).heap[w.heap.size]? = _ from OB2.out); have OX3 := Lib.hid (show (w2.drewN nq).heap[xb]? = _ from OX.out); have HB3 := Lib.hid (below_drewN HB2.out nq)
      clear hlk m1 x0 x1 OB2 OX HB2
      generalize w2.drewN nq = w3 at *
      have x0 := cell_blk_some OX3.out (i := 0) rfl
      have x1 := cell_blk_some OX3.out (i := 1) rfl
      have x2 := cell_blk_some OX3.out (i := 2) rfl
      have x3 := cell_blk_some OX3.out (i := 3) rfl
      have d0 := cell_blk_some OB3.out (i := 0) rfl
      have d1 := cell_blk_some OB3.out (i := 1) rfl
      have d2 := cell_blk_some OB3.out (i := 2) rfl
      have d3 := cell_blk_some OB3.out (i := 3) rfl
      have f0 := free_blk (i := 0) OB3.out
      have f1 := free_blk (i := 1) OB3.out
      have f2 := free_blk (i := 2) OB3.out
      have f3 := free_blk (i := 3) OB3.out
      have HQ : Hid (freshC M s dir = 17) := Lib.hid (by rw [HCO.out]; rfl)
      go_wp2_with fail
      have hfin := blk_set (i := 3) (blk_set (i := 2) (blk_set (i := 1) (blk_set (i := 0) OB3.out (.pointer (some ⟨bp, 0, none⟩))) (.string (parL s))) (.bool (splitD s))) (.int .i64 (longN (parN s ++ [parL s])))
      refine bodyPost_ret (results_row_tmp rfl _ _ w.heap.size _ _ _ _ rfl hfin Tryz.underlying102 rfl (by kernel_rfl)) rfl ?_
      exact ⟨⟨_, HVV.out, by rw [HQ.out]; rfl⟩, (((HB3.out.setCell (Nat.le_refl _) _).setCell (Nat.le_refl _) _).setCell (Nat.le_refl _) _).setCell (Nat.le_refl _) _⟩
    | none =>
      have hlk : ∀ n, (Instr.lookup 69 (.map (some eb)) (.string (parL s)) false).run Tryz.prog (w2.drewN n) = .ok (.pointer none) (w2.drewN n) := hlk
      go_quiet (fail)
      have OB3 := Lib.hid (show (w2.drewN nq).heap[w.heap.size]? = _ from OB2.out); have OX3 := Lib.hid (show (w2.drewN nq).heap[xb]? = _ from OX.out); have HB3 := Lib.hid (below_drewN HB2.out nq)
      clear hlk m1 x0 x1 OB2 OX HB2
      generalize w2.drewN nq = w3 at *
      have x0 := cell_blk_some OX3.out (i := 0) rfl
      have x1 := cell_blk_some OX3.out (i := 1) rfl
      have x2 := cell_blk_some OX3.out (i := 2) rfl
      have x3 := cell_blk_some OX3.out (i := 3) rfl
      have d0 := cell_blk_some OB3.out (i := 0) rfl
      have d1 := cell_blk_some OB3.out (i := 1) rfl
      have d2 := cell_blk_some OB3.out (i := 2) rfl
      have d3 := cell_blk_some OB3.out (i := 3) rfl
      have f0 := free_blk (i := 0) OB3.out
      have f1 := free_blk (i := 1) OB3.out
      have f2 := free_blk (i := 2) OB3.out
      have f3 := free_blk (i := 3) OB3.out
      have hq : freshC M s dir = if splitD s && !dir then 21 else if dir && decide (255 ≤ longN (parN s ++ [parL s])) then 36 else 0 := by rw [HCO.out]; rfl
      have HQ0 := Lib.hid hq
      clear hq HCO
      generalize hsd : splitD s = sd at *
      generalize hlg : longN (parN s ++ [parL s]) = lg at *
      clear hsd hlg
      by_cases h255 : 255 ≤ lg
      · have h1 : decide (255 ≤ lg) = true := decide_eq_true h255
        cases sd <;> cases dir
        · have HQ : Hid (freshC M s false = 0) := Lib.hid (by rw [HQ0.out]; rfl)
          go_wp2_with fail
          have hfin := blk_set (i := 3) (blk_set (i := 2) (blk_set (i := 1) (blk_set (i := 0) OB3.out (.pointer (some ⟨bp, 0, none⟩))) (.string (parL s))) (.bool false)) (.int .i64 lg)
          refine bodyPost_ret (results_row_tmp rfl _ _ w.heap.size _ _ _ _ rfl hfin Tryz.underlying102 rfl (by kernel_rfl)) rfl ?_
          exact ⟨⟨_, HVV.out, by rw [HQ.out]; rfl⟩, (((HB3.out.setCell (Nat.le_refl _) _).setCell (Nat.le_refl _) _).setCell (Nat.le_refl _) _).setCell (Nat.le_refl _) _⟩
        · have HQ : Hid (freshC M s true = 36) := Lib.hid (by rw [HQ0.out, h1]; rfl)
          go_wp2_with fail
          have hfin := blk_set (i := 3) (blk_set (i := 2) (blk_set (i := 1) (blk_set (i := 0) OB3.out (.pointer (some ⟨bp, 0, none⟩))) (.string (parL s))) (.bool false)) (.int .i64 lg)
          refine bodyPost_ret (results_row_tmp rfl _ _ w.heap.size _ _ _ _ rfl hfin Tryz.underlying102 rfl (by kernel_rfl)) rfl ?_
          exact ⟨⟨_, HVV.out, by rw [HQ.out]; rfl⟩, (((HB3.out.setCell (Nat.le_refl _) _).setCell (Nat.le_refl _) _).setCell (Nat.le_refl _) _).setCell (Nat.le_refl _) _⟩
        · have HQ : Hid (freshC M s false = 21) := Lib.hid (by rw [HQ0.out]; rfl)
          go_wp2_with fail
          have hfin := blk_set (i := 3) (blk_set (i := 2) (blk_set (i := 1) (blk_set (i := 0) OB3.out (.pointer (some ⟨bp, 0, none⟩))) (.string (parL s))) (.bool true)) (.int .i64 lg)
          refine bodyPost_ret (results_row_tmp rfl _ _ w.heap.size _ _ _ _ rfl hfin Tryz.underlying102 rfl (by kernel_rfl)) rfl ?_
          exact ⟨⟨_, HVV.out, by rw [HQ.out]; rfl⟩, (((HB3.out.setCell (Nat.le_refl _) _).setCell (Nat.le_refl _) _).setCell (Nat.le_refl _) _).setCell (Nat.le_refl _) _⟩
        · have HQ : Hid (freshC M s true = 36) := Lib.hid (by rw [HQ0.out, h1]; rfl)
          go_wp2_with fail
          have hfin := blk_set (i := 3) (blk_set (i := 2) (blk_set (i := 1) (blk_set (i := 0) OB3.out (.pointer (some ⟨bp, 0, none⟩))) (.string (parL s))) (.bool true)) (.int .i64 lg)
          refine bodyPost_ret (results_row_tmp rfl _ _ w.heap.size _ _ _ _ rfl hfin Tryz.underlying102 rfl (by kernel_rfl)) rfl ?_
          exact ⟨⟨_, HVV.out, by rw [HQ.out]; rfl⟩, (((HB3.out.setCell (Nat.le_refl _) _).setCell (Nat.le_refl _) _).setCell (Nat.le_refl _) _).setCell (Nat.le_refl _) _⟩
      · have h1 : decide (255 ≤ lg) = false := decide_eq_false h255
        cases sd <;> cases dir
        · have HQ : Hid (freshC M s false = 0) := Lib.hid (by rw [HQ0.out]; rfl)
          go_wp2_with fail
          have hfin := blk_set (i := 3) (blk_set (i := 2) (blk_set (i := 1) (blk_set (i := 0) OB3.out (.pointer (some ⟨bp, 0, none⟩))) (.string (parL s))) (.bool false)) (.int .i64 lg)
          refine bodyPost_ret (results_row_tmp rfl _ _ w.heap.size _ _ _ _ rfl hfin Tryz.underlying102 rfl (by kernel_rfl)) rfl ?_
          exact ⟨⟨_, HVV.out, by rw [HQ.out]; rfl⟩, (((HB3.out.setCell (Nat.le_refl _) _).setCell (Nat.le_refl _) _).setCell (Nat.le_refl _) _).setCell (Nat.le_refl _) _⟩
        · have HQ : Hid (freshC M s true = 0) := Lib.hid (by rw [HQ0.out, h1]; rfl)
          go_wp2_with fail
          have hfin := blk_set (i := 3) (blk_set (i := 2) (blk_set (i := 1) (blk_set (i := 0) OB3.out (.pointer (some ⟨bp, 0, none⟩))) (.string (parL s))) (.bool false)) (.int .i64 lg)
          refine bodyPost_ret (results_row_tmp rfl _ _ w.heap.size _ _ _ _ rfl hfin Tryz.underlying102 rfl (by kernel_rfl)) rfl ?_
          exact ⟨⟨_, HVV.out, by rw [HQ.out]; rfl⟩, (((HB3.out.setCell (Nat.le_refl _) _).setCell (Nat.le_refl _) _).setCell (Nat.le_refl _) _).setCell (Nat.le_refl _) _⟩
        · have HQ : Hid (freshC M s false = 21) := Lib.hid (by rw [HQ0.out]; rfl)
          go_wp2_with fail
          have hfin := blk_set (i := 3) (blk_set (i := 2) (blk_set (i := 1) (blk_set (i := 0) OB3.out (.pointer (some ⟨bp, 0, none⟩))) (.string (parL s))) (.bool true)) (.int .i64 lg)
          refine bodyPost_ret (results_row_tmp rfl _ _ w.heap.size _ _ _ _ rfl hfin Tryz.underlying102 rfl (by kernel_rfl)) rfl ?_
          exact ⟨⟨_, HVV.out, by rw [HQ.out]; rfl⟩, (((HB3.out.setCell (Nat.le_refl _) _).setCell (Nat.le_refl _) _).setCell (Nat.le_refl _) _).setCell (Nat.le_refl _) _⟩
        · have HQ : Hid (freshC M s true = 0) := Lib.hid (by rw [HQ0.out, h1]; rfl)
          go_wp2_with fail
          have hfin := blk_set (i := 3) (blk_set (i := 2) (blk_set (i := 1) (blk_set (i := 0) OB3.out (.pointer (some ⟨bp, 0, none⟩))) (.string (parL s))) (.bool true)) (.int .i64 lg)
          refine bodyPost_ret (results_row_tmp rfl _ _ w.heap.size _ _ _ _ rfl hfin Tryz.underlying102 rfl (by kernel_rfl)) rfl ?_
          exact ⟨⟨_, HVV.out, by rw [HQ.out]; rfl⟩, (((HB3.out.setCell (Nat.le_refl _) _).setCell (Nat.le_refl _) _).setCell (Nat.le_refl _) _).setCell (Nat.le_refl _) _⟩
end
end Go.Proofs.YtoofcnehoffllaaGreat

namespace Go.Proofs.YtoofcnehoffllaaGreat
open Go.RowKit

/-- A tree with just its root. -/
def newM : TM := fun i => if i = 2 then some ⟨some fun _ => none, [], 1⟩ else none
def at2 (b : Nat) : Nat → Option Nat := fun i => if i = 2 then some b else none
theorem newM_ok {cap : Nat} (h : 5 ≤ cap) : TOk newM cap := by
  refine ⟨rfl, fun i nd hm => ?_, fun i s j he => ?_⟩
  · unfold newM at hm
    split at hm
    · omega
    · cases hm
  · unfold entN newM at he
    by_cases hi : i = 2
    · rw [if_pos hi] at he; cases he
    · rw [if_neg hi] at he; cases he
theorem new_in {w : World} {tb nb eb b2 cap : Nat} {cs : Array Value} (htop : w.heap[tb]? = some (.cells #[.slice (some ⟨nb, 0, none⟩) cap cap] 67 (0, 0)))
    (hrow : w.heap[nb]? = some (.cells cs 68 (0, 0))) (hz : cs.size = cap) (hcs : ∀ i, i < cap → cs[i]? = some (nptr (at2 b2 i)))
    (hmap : w.heap[eb]? = some (.map #[] 0)) (hnode : w.heap[b2]? = some (.cells #[.int .i64 2, .map (some eb), .slice none 0 0, .int .i64 1] 71 (0, 0))) (hc : 5 ≤ cap ∧ cap ≤ 201) :
    TIn w tb nb cap (at2 b2) (at2 eb) (fun _ => .slice none 0 0) newM := by
  have hm : ∀ i nd, newM i = some nd → i = 2 ∧ nd = ⟨some fun _ => none, [], 1⟩ := fun i nd h => by
    unfold newM at h
    split at h
    · rename_i hi; injection h with h; exact ⟨hi, h.symm⟩
    · cases h
  have hp : ∀ {b : Nat} {i c : Nat}, at2 b i = some c → i = 2 ∧ c = b := fun {b i c} h => by
    unfold at2 at h
    split at h
    · rename_i hi; injection h with h; exact ⟨hi, h.symm⟩
    · cases h
  refine ⟨htop, ⟨cs, hrow, hz, hcs⟩, fun i => ?_, fun i b nd h1 h2 => ?_, fun i nd h => ?_, fun i nd h => ?_, fun i j b h1 h2 => by rw [(hp h1).1, (hp h2).1], fun i j b h1 h2 => by rw [(hp h1).1, (hp h2).1], fun i j b h1 _ => (by cases h1), fun i h => ?_, newM_ok hc.1, hc.2⟩
  · unfold at2 newM
    by_cases hi : i = 2
    · rw [if_pos hi, if_pos hi]; rfl
    · rw [if_neg hi, if_neg hi]; rfl
  · obtain ⟨rfl, rfl⟩ := hm i nd h2
    obtain ⟨_, rfl⟩ := hp h1
    exact hnode
  · obtain ⟨rfl, rfl⟩ := hm i nd h
    exact ⟨rfl, .inl ⟨rfl, rfl⟩⟩
  · obtain ⟨rfl, rfl⟩ := hm i nd h
    exact ⟨eb, rfl, MapIs.new _ _ _ hmap⟩
  · unfold newM at h
    by_cases hi : i = 2
    · rw [if_pos hi] at h; cases h
    · unfold at2
      rw [if_neg hi]; exact ⟨rfl, rfl⟩
set_option maxHeartbeats 2000000 in
set_option maxRecDepth 100000 in
theorem new_bad {n : Int} (hn : n < 4 ∨ 200 < n) (w : World) : Calls Tryz.prog 6 #[.int .i64 n] w fun e w' => e = .returned (.tuple #[.pointer none, .int .i64 22]) ∧ w' = w := by
  by_cases h4 : n < 4
  · clear hn
    go_enter Tryz.func6, Tryz.ntmps6
    go_wp2_with fail
    go_ret2
    exact ⟨rfl, rfl⟩
  · have h2 : 200 < n := by omega
    clear hn
    go_enter Tryz.func6, Tryz.ntmps6
    go_wp2_with fail
    go_ret2
    exact ⟨rfl, rfl⟩
set_option maxHeartbeats 2000000 in
set_option maxRecDepth 100000 in
theorem new_any {n : Nat} (h4 : 4 ≤ n) (h2 : n ≤ 200) (w : World) : Calls Tryz.prog 6 #[.int .i64 n] w fun e w' => ∃ tb nb eb b2, e = .returned (.tuple #[.pointer (some ⟨tb, 0, none⟩), .int .i64 0]) ∧ TIn w' tb nb (n + 1) (at2 b2) (at2 eb) (fun _ => .slice none 0 0) newM ∧ w.heap.size ≤ tb ∧ w.heap.size ≤ nb ∧ w.heap.size ≤ eb ∧ w.heap.size ≤ b2 ∧ Below w.heap.size w w' := by
  obtain ⟨i0, hi, hz0, hz1, hz2⟩ := info_parts (P := Tryz.prog) (e := 68) (z := .pointer none) (size := 1) (bytes := 8) (by kernel_rfl)
  have hmk := run_makeSlice (P := Tryz.prog) w 65 68 i0 _ Tryz.underlying65 hi hz0 .i64 .i64 ((n : Int) + 1) ((n : Int) + 1) (by omega) (by omega) (by rw [hz1]; omega) (by rw [hz2]; omega) (by omega)
  have mm := fun w => run_makeMap (P := Tryz.prog) 69 w
  have hb1 : (4 : Int) ≤ (n : Int) := by omega
  have hb2 : (n : Int) ≤ 200 := by omega
  rw [show ((n : Int) + 1).toNat = n + 1 by omega, hz1, Nat.mul_one, show (Value.pointer none).cells = #[.pointer none] from rfl] at hmk
  obtain ⟨Z, hZ⟩ : ∃ Z, Z = madeCells #[.pointer none] (n + 1) := ⟨_, rfl⟩
  have hZs : Z.size = n + 1 := by rw [hZ]; exact size_madeCells _ _
  have hZc : ∀ i, i < n + 1 → Z[i]? = some (.pointer none) := fun i hi => by
    have := toList_madeCells_one (.pointer none) (n + 1)
    rw [← hZ] at this
    rw [← Array.getElem?_toList, this, List.getElem?_replicate, if_pos hi]
  rw [← hZ] at hmk
  have B0 : ((((w.alloc (.cells Z 68)).alloc (.cells #[.slice (some ⟨w.heap.size, 0, none⟩) (n + 1) (n + 1)] 67)).alloc (.map #[] 0)).alloc (.cells #[.int .i64 2, .map (some (w.heap.size + 1 + 1)), .slice none 0 0, .int .i64 1] 71)).heap[w.heap.size]? = some (.cells Z 68 (0, 0)) := blk_old (blk_old (blk_old (blk_new rfl)))
  have B1 : ((((w.alloc (.cells Z 68)).alloc (.cells #[.slice (some ⟨w.heap.size, 0, none⟩) (n + 1) (n + 1)] 67)).alloc (.map #[] 0)).alloc (.cells #[.int .i64 2, .map (some (w.heap.size + 1 + 1)), .slice none 0 0, .int .i64 1] 71)).heap[w.heap.size + 1]? = some (.cells #[.slice (some ⟨w.heap.size, 0, none⟩) (n + 1) (n + 1)] 67 (0, 0)) := blk_old (blk_old (blk_new (by simp)))
  have B2 : ((((w.alloc (.cells Z 68)).alloc (.cells #[.slice (some ⟨w.heap.size, 0, none⟩) (n + 1) (n + 1)] 67)).alloc (.map #[] 0)).alloc (.cells #[.int .i64 2, .map (some (w.heap.size + 1 + 1)), .slice none 0 0, .int .i64 1] 71)).heap[w.heap.size + 1 + 1]? = some (.map #[] 0) := blk_old (blk_new (by simp))
  have B3 : ((((w.alloc (.cells Z 68)).alloc (.cells #[.slice (some ⟨w.heap.size, 0, none⟩) (n + 1) (n + 1)] 67)).alloc (.map #[] 0)).alloc (.cells #[.int .i64 2, .map (some (w.heap.size + 1 + 1)), .slice none 0 0, .int .i64 1] 71)).heap[w.heap.size + 1 + 1 + 1]? = some (.cells #[.int .i64 2, .map (some (w.heap.size + 1 + 1)), .slice none 0 0, .int .i64 1] 71 (0, 0)) := blk_new (by simp)
  have BE : Below w.heap.size w ((((w.alloc (.cells Z 68)).alloc (.cells #[.slice (some ⟨w.heap.size, 0, none⟩) (n + 1) (n + 1)] 67)).alloc (.map #[] 0)).alloc (.cells #[.int .i64 2, .map (some (w.heap.size + 1 + 1)), .slice none 0 0, .int .i64 1] 71)) := ((((Below.refl _ w).alloc (Nat.le_refl _) _).alloc (by simp) _).alloc (by simp; omega) _).alloc (by simp; omega) _
  have c2 := cell_blk_some B0 (hZc 2 (by omega))
  have f2 := free_blk (i := 2) B0
  have HB0 := Lib.hid B0; have HB1 := Lib.hid B1; have HB2 := Lib.hid B2; have HB3 := Lib.hid B3; have HBE := Lib.hid BE; have HZS := Lib.hid hZs; have HZC := Lib.hid hZc
  clear hi hz0 hz2 hz1 B0 B1 B2 B3 BE hZs hZc hZ
  go_enter Tryz.func6, Tryz.ntmps6
  go_wp2_with fail
  go_ret2
  refine ⟨w.heap.size + 1, w.heap.size, w.heap.size + 1 + 1, w.heap.size + 1 + 1 + 1, rfl, ?_, by omega, by omega, by omega, by omega, ((((Below.refl _ w).alloc (Nat.le_refl _) _).alloc (by simp) _).alloc (by simp; omega) _).alloc (by simp; omega) _⟩
  refine new_in (cs := Z.setIfInBounds 2 (.pointer (some ⟨w.heap.size + 1 + 1 + 1, 0, none⟩))) (blk_old (blk_old (blk_new (by simp)))) (blk_old (blk_old (blk_old (blk_new rfl)))) (by rw [Array.size_setIfInBounds, HZS.out]) (fun i hi => ?_) (blk_old (blk_new (by simp))) (blk_new (by simp)) ⟨by omega, by omega⟩
  rw [Array.getElem?_setIfInBounds]
  unfold at2
  by_cases h2' : i = 2
  · rw [if_pos h2'.symm, if_pos (by rw [HZS.out]; omega), if_pos h2']; rfl
  · rw [if_neg (fun e => h2' e.symm), if_neg h2']
    exact HZC.out i hi
end Go.Proofs.YtoofcnehoffllaaGreat

namespace Go.Proofs.YtoofcnehoffllaaGreat
open Go.RowKit

def updO (P : Nat → Option Nat) (i : Nat) (v : Option Nat) : Nat → Option Nat := fun x => if x = i then v else P x
theorem updO_self {P : Nat → Option Nat} {i : Nat} {v : Option Nat} : updO P i v i = v := if_pos rfl
theorem updO_other {P : Nat → Option Nat} {i x : Nat} {v : Option Nat} (h : x ≠ i) : updO P i v x = P x := if_neg h
def updE (f : ByteArray → Option Nat) (s : ByteArray) (v : Option Nat) : ByteArray → Option Nat := fun x => if x = s then v else f x
/-- A new node. -/
def freshNd (dir : Bool) : Nd := ⟨if dir then some fun _ => none else none, [], 1⟩
/-- A tree with a node i more, which the directory p has under a name. -/
def addM (M : TM) (i : Nat) (nd : Nd) (p : Nat) (s : ByteArray) : TM := fun x => if x = i then some nd else if x = p then (M p).map fun q => { q with ents := q.ents.map fun f => updE f s (some i) } else M x
section
variable {w w' : World} {tb nb cap : Nat} {P E : Nat → Option Nat} {V : Nat → Value} {M : TM}
theorem addM_i {i p : Nat} {nd : Nd} {s : ByteArray} : addM M i nd p s i = some nd := if_pos rfl
theorem addM_p {i p : Nat} {nd q : Nd} {s : ByteArray} (h : p ≠ i) (hm : M p = some q) : addM M i nd p s p = some { q with ents := q.ents.map fun f => updE f s (some i) } := by
  unfold addM
  rw [if_neg h, if_pos rfl, hm]; rfl
theorem addM_o {i p x : Nat} {nd : Nd} {s : ByteArray} (h1 : x ≠ i) (h2 : x ≠ p) : addM M i nd p s x = M x := by
  unfold addM
  rw [if_neg h1, if_neg h2]
theorem entF_upd {f : ByteArray → Option Nat} {i b : Nat} (hf : ∀ s j, f s = some j → j ≠ i) : entF (updO P i (some b)) f = entF P f := by
  funext s
  unfold entF
  cases hq : f s with
  | none => rfl
  | some j => show some (nptr (updO P i (some b) j)) = some (nptr (P j)); rw [updO_other (hf s j hq)]
theorem entF_put {f : ByteArray → Option Nat} {i b : Nat} {s : ByteArray} (hf : ∀ s j, f s = some j → j ≠ i) : entF (updO P i (some b)) (updE f s (some i)) = putK (entF P f) s (nptr (some b)) := by
  funext x
  by_cases e : x = s
  · subst e
    rw [putK_self]
    unfold entF updE
    rw [if_pos rfl]
    show some (nptr (updO P i (some b) i)) = _
    rw [updO_self]
  · rw [putK_other e, ← entF_upd (P := P) (b := b) hf]
    unfold entF updE
    rw [if_neg e]
theorem addM_ok (h : TOk M cap) {i p : Nat} {dir : Bool} {s : ByteArray} (hi : 2 ≤ i ∧ i < cap) (hn : M i = none) (hp : isDir M p = true) : TOk (addM M i (freshNd dir) p s) cap := by
  have hpi : p ≠ i := fun e => by rw [e] at hp; unfold isDir at hp; rw [hn] at hp; cases hp
  have hi2 : i ≠ 2 := fun e => by
    have := h.root
    unfold isDir at this
    rw [← e, hn] at this; cases this
  obtain ⟨q, hq⟩ : ∃ q, M p = some q := by
    cases hq : M p with
    | none => unfold isDir at hp; rw [hq] at hp; cases hp
    | some q => exact ⟨q, rfl⟩
  have hthere : ∀ j, (M j).isSome = true → (addM M i (freshNd dir) p s j).isSome = true := fun j hj => by
    by_cases e1 : j = i
    · rw [e1, addM_i]; rfl
    · by_cases e2 : j = p
      · rw [e2, addM_p hpi hq]; rfl
      · rw [addM_o e1 e2]; exact hj
  refine ⟨?_, fun x nd hx => ?_, fun x t j hx => ?_⟩
  · by_cases e : 2 = p
    · unfold isDir
      rw [e, addM_p hpi hq]
      unfold isDir at hp
      rw [hq] at hp
      show (q.ents.map _).isSome = true
      rw [Option.isSome_map]; exact hp
    · have := h.root
      unfold isDir at this ⊢
      rw [addM_o (fun e' => hi2 e'.symm) e]; exact this
  · by_cases e1 : x = i
    · rw [e1]; exact hi
    · by_cases e2 : x = p
      · rw [e2]; exact h.low p q hq
      · rw [addM_o e1 e2] at hx; exact h.low x nd hx
  · by_cases e1 : x = i
    · unfold entN at hx
      rw [e1, addM_i] at hx
      unfold freshNd at hx
      cases dir <;> cases hx
    · by_cases e2 : x = p
      · unfold entN at hx
        rw [e2, addM_p hpi hq] at hx
        cases hqe : q.ents with
        | none => rw [hqe] at hx; cases hx
        | some f =>
          rw [hqe] at hx
          have hx' : updE f s (some i) t = some j := hx
          unfold updE at hx'
          split at hx'
          · injection hx' with hx'
            rw [← hx', addM_i]; rfl
          · refine hthere j (h.ent p t j ?_)
            unfold entN
            rw [hq]
            show (match q.ents with | some f => f t | none => none) = some j
            rw [hqe]; exact hx'
      · unfold entN at hx
        rw [addM_o e1 e2] at hx
        exact hthere j (h.ent x t j hx)
end
end Go.Proofs.YtoofcnehoffllaaGreat

namespace Go.Proofs.YtoofcnehoffllaaGreat
open Go.RowKit

section
variable {w w' : World} {tb nb cap : Nat} {P E : Nat → Option Nat} {V : Nat → Value} {M : TM}
theorem TIn.elt (h : TIn w tb nb cap P E V M) {i e : Nat} (he : E i = some e) : ∃ es c, w.heap[e]? = some (.map es c) := by
  cases hm : M i with
  | none => rw [(h.eno i hm).1] at he; cases he
  | some nd =>
    have := h.ents i nd hm
    cases hn : nd.ents with
    | none => rw [hn] at this; rw [this] at he; cases he
    | some f =>
      rw [hn] at this
      obtain ⟨eb, he', es, c, hM, _⟩ := this
      rw [he'] at he
      injection he with he
      subst he
      exact ⟨es, c, hM⟩
theorem TIn.add (h : TIn w tb nb cap P E V M) {i p pe nbk : Nat} {q : Nd} {f : ByteArray → Option Nat} {s : ByteArray} {dir : Bool} {eo : Option Nat}
    (hi : 2 ≤ i ∧ i < cap) (hn : M i = none) (hq : M p = some q) (hf : q.ents = some f) (hpe : E p = some pe)
    (hrow : ∃ cs', w'.heap[nb]? = some (.cells cs' 68 (0, 0)) ∧ cs'.size = cap ∧ ∀ j, j < cap → cs'[j]? = some (nptr (updO P i (some nbk) j)))
    (hmap : MapIs Value.string w' pe (putK (entF P f) s (nptr (some nbk))))
    (hnode : w'.heap[nbk]? = some (.cells #[.int .i64 i, .map eo, .slice none 0 0, .int .i64 1] 71 (0, 0)))
    (heo : (dir = true ∧ ∃ e, eo = some e ∧ w.heap.size ≤ e ∧ w'.heap[e]? = some (.map #[] 0)) ∨ (dir = false ∧ eo = none))
    (hnb : w.heap.size ≤ nbk) (hfr : ∀ b, b < w.heap.size → b ≠ nb → b ≠ pe → w'.heap[b]? = w.heap[b]?) :
    TIn w' tb nb cap (updO P i (some nbk)) (updO E i eo) V (addM M i (freshNd dir) p s) := by
  have hd : isDir M p = true := by unfold isDir; rw [hq]; show q.ents.isSome = true; rw [hf]; rfl
  have hpi : p ≠ i := fun e => by rw [e, hn] at hq; cases hq
  obtain ⟨cs, hr, hz, hcs⟩ := h.row
  obtain ⟨pes, pec, hpm⟩ := h.elt hpe
  have offr : ∀ {b : Nat} {o : Obj}, w.heap[b]? = some o → (∀ c z, o ≠ .cells c 68 z) → (∀ es c, o ≠ .map es c) → w'.heap[b]? = some o := fun {b o} hb h1 h2 => by
    refine (hfr b (blk_lt hb) (fun e => ?_) (fun e => ?_)).trans hb
    · rw [e, hr] at hb
      injection hb with hb
      exact h1 _ _ hb.symm
    · rw [e, hpm] at hb
      injection hb with hb
      exact h2 _ _ hb.symm
  have hPi : P i = none := by
    have := h.dom i
    rw [hn] at this
    cases hp : P i with
    | none => rfl
    | some b => rw [hp] at this; cases this
  have hlt : ∀ {x b : Nat}, P x = some b → b < w.heap.size := fun {x b} hx => by
    have hs : (M x).isSome = true := by rw [← h.dom x, hx]; rfl
    obtain ⟨nd, hm⟩ := Option.isSome_iff_exists.1 hs
    exact blk_lt (h.node x b nd hx hm)
  have hold : ∀ {x b : Nat} {nd : Nd}, P x = some b → M x = some nd → w'.heap[b]? = some (.cells #[.int .i64 x, .map (E x), V x, .int .i64 nd.links] 71 (0, 0)) := fun {x b nd} h1 h2 => offr (h.node x b nd h1 h2) (fun c z e => by injection e with _ e _; cases e) (fun es c e => by cases e)
  have hdat : ∀ {x : Nat} {nd : Nd}, M x = some nd → w'.ownsRow 0 5 1 (V x) nd.data.length (u8s nd.data) := fun {x nd} hm => by
    have h0 := h.data x nd hm
    refine ⟨h0.1, ?_⟩
    rcases h0.2 with hh | ⟨g, cap', cur, e, h1, hg, hr'⟩
    · exact .inl hh
    · exact .inr ⟨g, cap', cur, e, h1, offr hg (fun c z e => by injection e with _ e _; cases e) (fun es c e => by cases e), hr'⟩
  have hin : ∀ {g : ByteArray → Option Nat} {x : Nat} {nd : Nd}, M x = some nd → nd.ents = some g → ∀ t j, g t = some j → j ≠ i := fun {g x nd} hm hg t j ht e => by
    have := h.ok.ent x t j (by unfold entN; rw [hm]; show (match nd.ents with | some f => f t | none => none) = some j; rw [hg]; exact ht)
    rw [e, hn] at this; cases this
  refine ⟨offr h.top (fun c z e => by injection e with _ e _; cases e) (fun es c e => by cases e), hrow, fun x => ?_, fun x b nd h1 h2 => ?_, fun x nd hm => ?_, fun x nd hm => ?_, fun x y b h1 h2 => ?_, fun x y b h1 h2 => ?_, h.vin, fun x hm => ?_, addM_ok h.ok hi hn hd, h.capB⟩
  · by_cases e1 : x = i
    · rw [e1, updO_self, addM_i]; rfl
    · rw [updO_other e1]
      by_cases e2 : x = p
      · rw [e2, addM_p hpi hq, h.dom p, hq]; rfl
      · rw [addM_o e1 e2]; exact h.dom x
  · by_cases e1 : x = i
    · rw [e1] at h1 h2 ⊢
      rw [updO_self] at h1
      injection h1 with h1
      rw [addM_i] at h2
      injection h2 with h2
      rw [← h1, ← h2, updO_self, (h.eno i hn).2]
      exact hnode
    · rw [updO_other e1] at h1 ⊢
      by_cases e2 : x = p
      · rw [e2] at h1 h2 ⊢
        rw [addM_p hpi hq] at h2
        injection h2 with h2
        rw [← h2]
        have hh := hold (nd := q) h1 hq
        exact hh
      · rw [addM_o e1 e2] at h2
        exact hold h1 h2
  · by_cases e1 : x = i
    · rw [e1] at hm ⊢
      rw [addM_i] at hm
      injection hm with hm
      rw [← hm, (h.eno i hn).2]
      exact ⟨rfl, .inl ⟨rfl, rfl⟩⟩
    · by_cases e2 : x = p
      · rw [e2] at hm ⊢
        rw [addM_p hpi hq] at hm
        injection hm with hm
        rw [← hm]
        have hh := hdat (nd := q) hq
        exact hh
      · rw [addM_o e1 e2] at hm
        exact hdat hm
  · by_cases e1 : x = i
    · rw [e1] at hm ⊢
      rw [addM_i] at hm
      injection hm with hm
      subst hm
      rw [updO_self]
      rcases heo with ⟨hdir, e, he, _, hmp⟩ | ⟨hdir, he⟩
      · subst hdir he
        exact ⟨e, rfl, by
          have := MapIs.new Value.string w' e hmp
          exact this⟩
      · subst hdir he
        rfl
    · rw [updO_other e1]
      by_cases e2 : x = p
      · rw [e2] at hm ⊢
        rw [addM_p hpi hq] at hm
        injection hm with hm
        subst hm
        show (match q.ents.map fun f => updE f s (some i) with
          | none => E p = none
          | some f => ∃ eb, E p = some eb ∧ MapIs Value.string w' eb (entF (updO P i (some nbk)) f))
        rw [hf]
        exact ⟨pe, hpe, by rw [entF_put (hin hq hf)]; exact hmap⟩
      · rw [addM_o e1 e2] at hm
        have := h.ents x nd hm
        cases hne : nd.ents with
        | none => rw [hne] at this; exact this
        | some g =>
          rw [hne] at this
          obtain ⟨eb, he, hM⟩ := this
          refine ⟨eb, he, ?_⟩
          rw [entF_upd (hin hm hne)]
          obtain ⟨es, c, hM0⟩ := h.elt he
          refine hM.same (hfr eb (blk_lt hM0) (fun e => ?_) fun e => e2 (h.ein x p pe (by rw [he, e]) hpe))
          rw [e, hr] at hM0
          injection hM0 with hM0
          cases hM0
  · by_cases e1 : x = i
    · by_cases e2 : y = i
      · rw [e1, e2]
      · rw [e1, updO_self] at h1
        rw [updO_other e2] at h2
        injection h1 with h1
        have := hlt h2
        omega
    · by_cases e2 : y = i
      · rw [updO_other e1] at h1
        rw [e2, updO_self] at h2
        injection h2 with h2
        have := hlt h1
        omega
      · rw [updO_other e1] at h1
        rw [updO_other e2] at h2
        exact h.pin x y b h1 h2
  · have heq : ∀ b, eo = some b → w.heap.size ≤ b := fun b hb => by
      rcases heo with ⟨_, e, he, hle, _⟩ | ⟨_, he⟩
      · rw [he] at hb; injection hb with hb; omega
      · rw [he] at hb; cases hb
    by_cases e1 : x = i
    · by_cases e2 : y = i
      · rw [e1, e2]
      · rw [e1, updO_self] at h1
        rw [updO_other e2] at h2
        obtain ⟨es, c, hM0⟩ := h.elt h2
        have := heq b h1
        have := blk_lt hM0
        omega
    · by_cases e2 : y = i
      · rw [updO_other e1] at h1
        rw [e2, updO_self] at h2
        obtain ⟨es, c, hM0⟩ := h.elt h1
        have := heq b h2
        have := blk_lt hM0
        omega
      · rw [updO_other e1] at h1
        rw [updO_other e2] at h2
        exact h.ein x y b h1 h2
  · have e1 : x ≠ i := fun e => by rw [e, addM_i] at hm; cases hm
    have e2 : x ≠ p := fun e => by rw [e, addM_p hpi hq] at hm; cases hm
    rw [addM_o e1 e2] at hm
    rw [updO_other e1]
    exact h.eno x hm
end
end Go.Proofs.YtoofcnehoffllaaGreat
