/- Walk of tree's fresh. -/
import Derived.Test.YtoofcnehoffllaaT6
import Derived.BigQuiet
namespace Go.Proofs.Ytoofcnehoffllaa
open Go.RowKit

def placeC (M : TM) (s : ByteArray) : Int := if parE s ≠ 0 then parE s else match leadN M 2 (parN s) with
  | .inr c => c
  | .inl p => if isDir M p then 0 else 20
/-- What is wrong with a new entry at a path. -/
def freshC (M : TM) (s : ByteArray) (dir : Bool) : Int := if placeC M s ≠ 0 then placeC M s else match leadN M 2 (parN s) with
  | .inr c => c
  | .inl p => if (entN M p (parL s)).isSome then 17 else if splitD s && !dir then 21 else if dir && decide (255 ≤ longN (parN s ++ [parL s])) then 36 else 0
section
variable {w : World} {tb nb cap : Nat} {P E : Nat → Option Nat} {V : Nat → Value} {M : TM}
/-- The two ways of a place. -/
theorem place_ways (h : TIn w tb nb cap P E V M) (s : ByteArray) :
    (placeC M s ≠ 0 ∧ ∃ o l b n, placeV P M s = .tuple #[placeA (.pointer o) l b n, .int .i64 (placeC M s)]) ∨
    (placeC M s = 0 ∧ ∃ p bp eb nd, leadN M 2 (parN s) = .inl p ∧ M p = some nd ∧ nd.dir = true ∧ P p = some bp ∧ E p = some eb ∧ placeV P M s = .tuple #[placeA (.pointer (some ⟨bp, 0, none⟩)) (parL s) (splitD s) (longN (parN s ++ [parL s])), .int .i64 0]) := by
  unfold placeC placeV
  by_cases hE : parE s = 0
  · rw [if_neg (by simp [hE]), if_neg (by simp [hE])]
    cases hq : leadN M 2 (parN s) with
    | inr c => exact .inl ⟨lead_code hq, _, _, _, _, rfl⟩
    | inl p =>
      have hi := look_there h hq
      obtain ⟨nd, hm⟩ := Option.isSome_iff_exists.1 hi
      obtain ⟨bp, hp, _⟩ := h.at_ hm
      dsimp only
      cases hd : isDir M p with
      | false => exact .inl ⟨by decide, _, _, _, _, rfl⟩
      | true =>
        have hnd : nd.dir = true := by rw [← h.isD hm, h.dirV hm, hd]
        obtain ⟨eb, he⟩ := Option.isSome_iff_exists.1 (by rw [h.isD hm]; exact hnd : (E p).isSome = true)
        refine .inr ⟨by decide, p, bp, eb, nd, rfl, hm, hnd, hp, he, ?_⟩
        rw [hp]; rfl
  · rw [if_pos hE, if_pos hE]
    exact .inl ⟨hE, _, _, _, _, rfl⟩
set_option maxHeartbeats 4000000 in
set_option maxRecDepth 100000 in
theorem fresh_any (h : TIn w tb nb cap P E V M) (s : ByteArray) (hs : s.size ≤ 1000000) (dir : Bool) :
    Calls Try.prog 37 #[.pointer (some ⟨tb, 0, none⟩), .string s, .bool dir] w fun e w' => (∃ pa, placeV P M s = .tuple #[pa, .int .i64 (placeC M s)] ∧ e = .returned (.tuple #[pa, .int .i64 (freshC M s dir)])) ∧ Below w.heap.size w w' := by
  have hb0 : Below w.heap.size w (w.alloc (.cells #[.pointer none, .string ⟨#[]⟩, .bool false, .int .i64 0] 81)) := (Below.refl _ w).alloc (Nat.le_refl _) _
  have HB0 := Lib.hid hb0
  have OB : Hid ((w.alloc (.cells #[.pointer none, .string ⟨#[]⟩, .bool false, .int .i64 0] 81)).heap[w.heap.size]? = some (.cells #[.pointer none, .string ⟨#[]⟩, .bool false, .int .i64 0] 81 (0, 0))) := Lib.hid (blk_new rfl)
  have HP := Lib.hid (place_any (h.below hb0) s hs)
  have HT := Lib.hid h
  have HC : Hid (freshC M s dir = if placeC M s ≠ 0 then placeC M s else match leadN M 2 (parN s) with
    | .inr c => c
    | .inl p => if (entN M p (parL s)).isSome then 17 else if splitD s && !dir then 21 else if dir && decide (255 ≤ longN (parN s ++ [parL s])) then 36 else 0) := Lib.hid rfl
  rcases place_ways h s with ⟨hc, o, l, b, n, hv⟩ | ⟨hc, p, bp, eb, nd, hl, hm, hd, hp, he, hv⟩
  · have hr : freshC M s dir = placeC M s := by rw [HC.out, if_pos hc]
    have HR := Lib.hid hr
    have HVV := Lib.hid hv
    have HVV := Lib.hid hv
    have HVV := Lib.hid hv
    have HVV := Lib.hid hv
    rw [hv] at HP
    generalize placeC M s = c at *
    have c1 : (c != 0) = true := by simp [hc]
    clear hr HC h hb0 hc hv HT
    unfold placeA at HP
    go_enter Try.func37, Try.ntmps37
    go_wp2_with fail
    generalize w.alloc (.cells #[.pointer none, .string ⟨#[]⟩, .bool false, .int .i64 0] 81) = w0 at *
    refine HP.out.mono ?_
    rintro e w1 ⟨rfl, hb1⟩
    have hba : Below w1.heap.size w1 (w1.alloc (.cells #[.pointer o, .string l, .bool b, .int .i64 n] 81)) := (Below.refl _ w1).alloc (Nat.le_refl _) _
    have ob := ((hba.block _ (blk_lt ((hb1.block _ (blk_lt OB.out)).trans OB.out))).trans ((hb1.block _ (blk_lt OB.out)).trans OB.out))
    have OB2 := Lib.hid ob
    have HB2 := Lib.hid (below_call (below_call HB0.out hb1 (Nat.le_refl _)) hba (Nat.le_refl _))
    have OX : Hid ((w1.alloc (.cells #[.pointer o, .string l, .bool b, .int .i64 n] 81)).heap[w1.heap.size]? = some (.cells #[.pointer o, .string l, .bool b, .int .i64 n] 81 (0, 0))) := Lib.hid (blk_new rfl)
    have d0 := cell_blk_some ob (i := 0) rfl
    have d1 := cell_blk_some ob (i := 1) rfl
    have d2 := cell_blk_some ob (i := 2) rfl
    have d3 := cell_blk_some ob (i := 3) rfl
    have f0 := free_blk (i := 0) ob
    have f1 := free_blk (i := 1) ob
    have f2 := free_blk (i := 2) ob
    have f3 := free_blk (i := 3) ob
    clear hb1 hba ob OB HP
    go_wp2_with fail
    have hfin := blk_set (i := 3) (blk_set (i := 2) (blk_set (i := 1) (blk_set (i := 0) OB2.out (.pointer o)) (.string l)) (.bool b)) (.int .i64 n)
    refine bodyPost_ret (results_row_tmp rfl _ _ w.heap.size _ _ _ _ rfl hfin Try.underlying81 rfl (by kernel_rfl)) rfl ?_
    exact ⟨⟨_, HVV.out, by rw [HR.out]; rfl⟩, (((HB2.out.setCell (Nat.le_refl _) _).setCell (Nat.le_refl _) _).setCell (Nat.le_refl _) _).setCell (Nat.le_refl _) _⟩
  · have hcode : freshC M s dir = if (entN M p (parL s)).isSome then 17 else if splitD s && !dir then 21 else if dir && decide (255 ≤ longN (parN s ++ [parL s])) then 36 else 0 := by rw [HC.out, if_neg (by simp [hc]), hl]
    have HCO := Lib.hid hcode
    have HVV : Hid (placeV P M s = .tuple #[placeA (.pointer (some ⟨bp, 0, none⟩)) (parL s) (splitD s) (longN (parN s ++ [parL s])), .int .i64 (placeC M s)]) := Lib.hid (by rw [hv, hc])
    rw [hv] at HP
    have HM := Lib.hid hm; have HD := Lib.hid hd; have HPP := Lib.hid hp; have HEE := Lib.hid he
    clear HC h hb0 hc hv hcode hl hm hd hp he
    unfold placeA at HP
    go_enter Try.func37, Try.ntmps37
    go_wp2_with fail
    generalize w.alloc (.cells #[.pointer none, .string ⟨#[]⟩, .bool false, .int .i64 0] 81) = w0 at *
    refine HP.out.mono ?_
    rintro e w1 ⟨rfl, hb1⟩
    have hba : Below w1.heap.size w1 (w1.alloc (.cells #[.pointer (some ⟨bp, 0, none⟩), .string (parL s), .bool (splitD s), .int .i64 (longN (parN s ++ [parL s]))] 81)) := (Below.refl _ w1).alloc (Nat.le_refl _) _
    have OB2 := Lib.hid ((hba.block _ (blk_lt ((hb1.block _ (blk_lt OB.out)).trans OB.out))).trans ((hb1.block _ (blk_lt OB.out)).trans OB.out))
    have HB2 := Lib.hid (below_call (below_call HB0.out hb1 (Nat.le_refl _)) hba (Nat.le_refl _))
    have OX : Hid ((w1.alloc (.cells #[.pointer (some ⟨bp, 0, none⟩), .string (parL s), .bool (splitD s), .int .i64 (longN (parN s ++ [parL s]))] 81)).heap[w1.heap.size]? = some (.cells #[.pointer (some ⟨bp, 0, none⟩), .string (parL s), .bool (splitD s), .int .i64 (longN (parN s ++ [parL s]))] 81 (0, 0))) := Lib.hid (blk_new rfl)
    clear hb1 hba OB HP HB0
    go_wp2_with fail
    generalize (w1.alloc (.cells #[.pointer (some ⟨bp, 0, none⟩), .string (parL s), .bool (splitD s), .int .i64 (longN (parN s ++ [parL s]))] 81)) = w2 at *
    generalize w1.heap.size = xb at *
    have HT2 := Lib.hid (HT.out.below HB2.out)
    obtain ⟨eb', he', hlk0⟩ := HT2.out.look HM.out HD.out (parL s)
    obtain rfl : eb = eb' := by
      have := HEE.out
      rw [he'] at this
      exact (Option.some.inj this).symm
    have HLK : Hid (∀ n, (Instr.lookup 65 (.map (some eb)) (.string (parL s)) false).run Try.prog (w2.drewN n) = .ok (nptr ((entN M p (parL s)).bind P)) (w2.drewN n)) := Lib.hid fun n => by
      obtain ⟨eb2, he2, hlk2⟩ := (HT2.out.below (below_drewN (Below.refl _ w2) n)).look HM.out HD.out (parL s)
      obtain rfl : eb = eb2 := by
        rw [he'] at he2
        exact Option.some.inj he2
      exact hlk2
    have hnb := HT2.out.node p bp nd HPP.out HM.out
    rw [HEE.out] at hnb
    have m1 := cell_blk_some hnb (i := 1) rfl
    have x0 := cell_blk_some OX.out (i := 0) rfl
    have x1 := cell_blk_some OX.out (i := 1) rfl
    have hsome : ∃ ob : Option Nat, (entN M p (parL s)).bind P = ob ∧ ob.isSome = (entN M p (parL s)).isSome := ⟨_, rfl, by
      cases hen : entN M p (parL s) with
      | none => rfl
      | some j =>
        show (P j).isSome = true
        rw [HT2.out.dom j]
        exact HT2.out.ok.ent p (parL s) j hen⟩
    obtain ⟨ob, hob, hobs⟩ := hsome
    rw [hob] at HLK
    rw [← hobs] at HCO
    have hlk := HLK.out
    clear hlk0 he' hob hobs hnb HT2 HLK
    unfold nptr at hlk
    cases ob with
    | some jb =>
      have hlk : ∀ n, (Instr.lookup 65 (.map (some eb)) (.string (parL s)) false).run Try.prog (w2.drewN n) = .ok (.pointer (some ⟨jb, 0, none⟩)) (w2.drewN n) := hlk
      go_quiet (fail)
      have OB3 := Lib.hid (show (w2.drewN nq).heap[w.heap.size]? = _ from OB2.out); have OX3 := Lib.hid (show (w2.drewN nq).heap[xb]? = _ from OX.out); have HB3 := Lib.hid (below_drewN HB2.out nq)
      clear hlk m1 x0 x1 OB2 OX HB2
      generalize w2.drewN nq = w3 at *
      have x0 := cell_blk_some OX3.out (i := 0) rfl
      have x1 := cell_blk_some OX3.out (i := 1) rfl
      have x2 := cell_blk_some OX3.out (i := 2) rfl
      have x3 := cell_blk_some OX3.out (i := 3) rfl
      have d0 := cell_blk_some OB3.out (i := 0) rfl
      have d1 := cell_blk_some OB3.out (i := 1) rfl
      have d2 := cell_blk_some OB3.out (i := 2) rfl
      have d3 := cell_blk_some OB3.out (i := 3) rfl
      have f0 := free_blk (i := 0) OB3.out
      have f1 := free_blk (i := 1) OB3.out
      have f2 := free_blk (i := 2) OB3.out
      have f3 := free_blk (i := 3) OB3.out
      have HQ : Hid (freshC M s dir = 17) := Lib.hid (by rw [HCO.out]; rfl)
      go_wp2_with fail
      have hfin := blk_set (i := 3) (blk_set (i := 2) (blk_set (i := 1) (blk_set (i := 0) OB3.out (.pointer (some ⟨bp, 0, none⟩))) (.string (parL s))) (.bool (splitD s))) (.int .i64 (longN (parN s ++ [parL s])))
      refine bodyPost_ret (results_row_tmp rfl _ _ w.heap.size _ _ _ _ rfl hfin Try.underlying81 rfl (by kernel_rfl)) rfl ?_
      exact ⟨⟨_, HVV.out, by rw [HQ.out]; rfl⟩, (((HB3.out.setCell (Nat.le_refl _) _).setCell (Nat.le_refl _) _).setCell (Nat.le_refl _) _).setCell (Nat.le_refl _) _⟩
    | none =>
      have hlk : ∀ n, (Instr.lookup 65 (.map (some eb)) (.string (parL s)) false).run Try.prog (w2.drewN n) = .ok (.pointer none) (w2.drewN n) := hlk
      go_quiet (fail)
      have OB3 := Lib.hid (show (w2.drewN nq).heap[w.heap.size]? = _ from OB2.out); have OX3 := Lib.hid (show (w2.drewN nq).heap[xb]? = _ from OX.out); have HB3 := Lib.hid (below_drewN HB2.out nq)
      clear hlk m1 x0 x1 OB2 OX HB2
      generalize w2.drewN nq = w3 at *
      have x0 := cell_blk_some OX3.out (i := 0) rfl
      have x1 := cell_blk_some OX3.out (i := 1) rfl
      have x2 := cell_blk_some OX3.out (i := 2) rfl
      have x3 := cell_blk_some OX3.out (i := 3) rfl
      have d0 := cell_blk_some OB3.out (i := 0) rfl
      have d1 := cell_blk_some OB3.out (i := 1) rfl
      have d2 := cell_blk_some OB3.out (i := 2) rfl
      have d3 := cell_blk_some OB3.out (i := 3) rfl
      have f0 := free_blk (i := 0) OB3.out
      have f1 := free_blk (i := 1) OB3.out
      have f2 := free_blk (i := 2) OB3.out
      have f3 := free_blk (i := 3) OB3.out
      have hq : freshC M s dir = if splitD s && !dir then 21 else if dir && decide (255 ≤ longN (parN s ++ [parL s])) then 36 else 0 := by rw [HCO.out]; rfl
      have HQ0 := Lib.hid hq
      clear hq HCO
      generalize hsd : splitD s = sd at *
      generalize hlg : longN (parN s ++ [parL s]) = lg at *
      clear hsd hlg
      by_cases h255 : 255 ≤ lg
      · have h1 : decide (255 ≤ lg) = true := decide_eq_true h255
        cases sd <;> cases dir
        · have HQ : Hid (freshC M s false = 0) := Lib.hid (by rw [HQ0.out]; rfl)
          go_wp2_with fail
          have hfin := blk_set (i := 3) (blk_set (i := 2) (blk_set (i := 1) (blk_set (i := 0) OB3.out (.pointer (some ⟨bp, 0, none⟩))) (.string (parL s))) (.bool false)) (.int .i64 lg)
          refine bodyPost_ret (results_row_tmp rfl _ _ w.heap.size _ _ _ _ rfl hfin Try.underlying81 rfl (by kernel_rfl)) rfl ?_
          exact ⟨⟨_, HVV.out, by rw [HQ.out]; rfl⟩, (((HB3.out.setCell (Nat.le_refl _) _).setCell (Nat.le_refl _) _).setCell (Nat.le_refl _) _).setCell (Nat.le_refl _) _⟩
        · have HQ : Hid (freshC M s true = 36) := Lib.hid (by rw [HQ0.out, h1]; rfl)
          go_wp2_with fail
          have hfin := blk_set (i := 3) (blk_set (i := 2) (blk_set (i := 1) (blk_set (i := 0) OB3.out (.pointer (some ⟨bp, 0, none⟩))) (.string (parL s))) (.bool false)) (.int .i64 lg)
          refine bodyPost_ret (results_row_tmp rfl _ _ w.heap.size _ _ _ _ rfl hfin Try.underlying81 rfl (by kernel_rfl)) rfl ?_
          exact ⟨⟨_, HVV.out, by rw [HQ.out]; rfl⟩, (((HB3.out.setCell (Nat.le_refl _) _).setCell (Nat.le_refl _) _).setCell (Nat.le_refl _) _).setCell (Nat.le_refl _) _⟩
        · have HQ : Hid (freshC M s false = 21) := Lib.hid (by rw [HQ0.out]; rfl)
          go_wp2_with fail
          have hfin := blk_set (i := 3) (blk_set (i := 2) (blk_set (i := 1) (blk_set (i := 0) OB3.out (.pointer (some ⟨bp, 0, none⟩))) (.string (parL s))) (.bool true)) (.int .i64 lg)
          refine bodyPost_ret (results_row_tmp rfl _ _ w.heap.size _ _ _ _ rfl hfin Try.underlying81 rfl (by kernel_rfl)) rfl ?_
          exact ⟨⟨_, HVV.out, by rw [HQ.out]; rfl⟩, (((HB3.out.setCell (Nat.le_refl _) _).setCell (Nat.le_refl _) _).setCell (Nat.le_refl _) _).setCell (Nat.le_refl _) _⟩
        · have HQ : Hid (freshC M s true = 36) := Lib.hid (by rw [HQ0.out, h1]; rfl)
          go_wp2_with fail
          have hfin := blk_set (i := 3) (blk_set (i := 2) (blk_set (i := 1) (blk_set (i := 0) OB3.out (.pointer (some ⟨bp, 0, none⟩))) (.string (parL s))) (.bool true)) (.int .i64 lg)
          refine bodyPost_ret (results_row_tmp rfl _ _ w.heap.size _ _ _ _ rfl hfin Try.underlying81 rfl (by kernel_rfl)) rfl ?_
          exact ⟨⟨_, HVV.out, by rw [HQ.out]; rfl⟩, (((HB3.out.setCell (Nat.le_refl _) _).setCell (Nat.le_refl _) _).setCell (Nat.le_refl _) _).setCell (Nat.le_refl _) _⟩
      · have h1 : decide (255 ≤ lg) = false := decide_eq_false h255
        cases sd <;> cases dir
        · have HQ : Hid (freshC M s false = 0) := Lib.hid (by rw [HQ0.out]; rfl)
          go_wp2_with fail
          have hfin := blk_set (i := 3) (blk_set (i := 2) (blk_set (i := 1) (blk_set (i := 0) OB3.out (.pointer (some ⟨bp, 0, none⟩))) (.string (parL s))) (.bool false)) (.int .i64 lg)
          refine bodyPost_ret (results_row_tmp rfl _ _ w.heap.size _ _ _ _ rfl hfin Try.underlying81 rfl (by kernel_rfl)) rfl ?_
          exact ⟨⟨_, HVV.out, by rw [HQ.out]; rfl⟩, (((HB3.out.setCell (Nat.le_refl _) _).setCell (Nat.le_refl _) _).setCell (Nat.le_refl _) _).setCell (Nat.le_refl _) _⟩
        · have HQ : Hid (freshC M s true = 0) := Lib.hid (by rw [HQ0.out, h1]; rfl)
          go_wp2_with fail
          have hfin := blk_set (i := 3) (blk_set (i := 2) (blk_set (i := 1) (blk_set (i := 0) OB3.out (.pointer (some ⟨bp, 0, none⟩))) (.string (parL s))) (.bool false)) (.int .i64 lg)
          refine bodyPost_ret (results_row_tmp rfl _ _ w.heap.size _ _ _ _ rfl hfin Try.underlying81 rfl (by kernel_rfl)) rfl ?_
          exact ⟨⟨_, HVV.out, by rw [HQ.out]; rfl⟩, (((HB3.out.setCell (Nat.le_refl _) _).setCell (Nat.le_refl _) _).setCell (Nat.le_refl _) _).setCell (Nat.le_refl _) _⟩
        · have HQ : Hid (freshC M s false = 21) := Lib.hid (by rw [HQ0.out]; rfl)
          go_wp2_with fail
          have hfin := blk_set (i := 3) (blk_set (i := 2) (blk_set (i := 1) (blk_set (i := 0) OB3.out (.pointer (some ⟨bp, 0, none⟩))) (.string (parL s))) (.bool true)) (.int .i64 lg)
          refine bodyPost_ret (results_row_tmp rfl _ _ w.heap.size _ _ _ _ rfl hfin Try.underlying81 rfl (by kernel_rfl)) rfl ?_
          exact ⟨⟨_, HVV.out, by rw [HQ.out]; rfl⟩, (((HB3.out.setCell (Nat.le_refl _) _).setCell (Nat.le_refl _) _).setCell (Nat.le_refl _) _).setCell (Nat.le_refl _) _⟩
        · have HQ : Hid (freshC M s true = 0) := Lib.hid (by rw [HQ0.out, h1]; rfl)
          go_wp2_with fail
          have hfin := blk_set (i := 3) (blk_set (i := 2) (blk_set (i := 1) (blk_set (i := 0) OB3.out (.pointer (some ⟨bp, 0, none⟩))) (.string (parL s))) (.bool true)) (.int .i64 lg)
          refine bodyPost_ret (results_row_tmp rfl _ _ w.heap.size _ _ _ _ rfl hfin Try.underlying81 rfl (by kernel_rfl)) rfl ?_
          exact ⟨⟨_, HVV.out, by rw [HQ.out]; rfl⟩, (((HB3.out.setCell (Nat.le_refl _) _).setCell (Nat.le_refl _) _).setCell (Nat.le_refl _) _).setCell (Nat.le_refl _) _⟩
end
end Go.Proofs.Ytoofcnehoffllaa
