/- Walk of the statement EntryReads of chapter 7: it returns true. -/
import Derived.Test.YtggfdhjckohmjaaDoorE18
namespace Go.Proofs.YtggfdhjckohmjaaDoor
open Go.RowKit

set_option maxHeartbeats 2000000 in
set_option maxRecDepth 100000 in
theorem lawReads_any (v : Value) (xs : List Int) (hb : isBytes xs) (w : World) (h : SrcAt w.heap.size w v xs) :
    Calls Tryd.prog 5 #[v] w fun e w' => e = .returned (.bool true) ∧ Below w.heap.size w w' := by
  obtain ⟨i0, hi, hz0, hz1, hz2⟩ := info_parts infoByte
  by_cases hbig : 1000 < xs.length
  · obtain ⟨ao, c, rfl⟩ := h.shape
    clear h hb
    have q : decide ((1000 : Int) < (xs.length : Int)) = true := by rw [decide_eq_true_eq]; omega
    go_enter Tryd.func5, Tryd.ntmps5
    go_wp2_with fail
    refine (awake_any _).mono ?_
    rintro e w1 ⟨rfl, hb1⟩
    go_wp2_with fail
    refine (awake_any _).mono ?_
    rintro e w2 ⟨rfl, hb2⟩
    go_wp2_with fail
    go_ret
    exact ⟨rfl, below_call hb1 hb2 (Nat.le_refl _)⟩
  · have q : decide ((1000 : Int) < (xs.length : Int)) = false := by rw [decide_eq_false_iff_not]; omega
    have H := Lib.hid h
    have HB := Lib.hid hb
    clear hb
    have hlen : xs.length ≤ 1000 := by omega
    rcases h.news with ⟨rfl, hx0⟩ | ⟨ad, c, rfl, hnews⟩
    focus
      clear h
      have hsn : ∀ (w : World) (a : Addr), (storeCells a []).run Tryd.prog w = .ok () w := fun _ _ => rfl
      have q0 : (xs.length : Int) = 0 := by rw [hx0]; rfl
      go_enter Tryd.func5, Tryd.ntmps5
      go_wp2_with fail
      refine (awake_any _).mono ?_
      rintro e w1 ⟨rfl, hb1⟩
      go_wp2_with fail
      have hS := Lib.hid (show SrcAt (w1.alloc (.cells #[] 5)).heap.size (w1.alloc (.cells #[] 5)) (.slice (some ⟨w1.heap.size, 0, none⟩) 0 0) xs from .inl ⟨hx0, .inr ⟨_, _, rfl⟩⟩)
      have hbelx : Below w.heap.size w (w1.alloc (.cells #[] 5)) := below_alloc hb1 (Nat.le_refl _) _
      clear hb1 q0 hx0 hsn
      generalize Value.slice (some ⟨w1.heap.size, 0, none⟩) 0 0 = vin at hS ⊢
      generalize w1.alloc (.cells #[] 5) = wx at hS hbelx ⊢
    rotate_left
    focus
      have HN := Lib.hid hnews; clear hnews h
      go_enter Tryd.func5, Tryd.ntmps5
      go_wp2_with fail
      refine (awake_any _).mono ?_
      rintro e w1 ⟨rfl, hb1⟩
      have hown : (w1.alloc (.cells #[] 5)).ownsRow w1.heap.size 5 1 (.slice (some ⟨w1.heap.size, 0, none⟩) 0 0) 0 [] :=
        ⟨rfl, .inr ⟨w1.heap.size, 0, #[], rfl, Nat.le_refl _, blk_new rfl, Nat.le_refl _, by decide, rfl, rfl⟩⟩
      have hbel1 : Below w.heap.size w (w1.alloc (.cells #[] 5)) := below_alloc hb1 (Nat.le_refl _) _
      go_wp2_with (at_builtin; refine wpList_append_own _ rfl _ _ 26 rfl w1.heap.size 5 i0 (.int .u8 0) 1 1 Tryd.underlying26 hi hz0 hz1 hz2 rfl (by decide) _ _ _ rfl hown ad xs.length c (u8s xs) rfl (by simp [u8s_length]) ?c1 (u8s_one _) ?c3 ?c4 ?c5 ?_)
      case c1 => exact HN.out _ hbel1
      case c3 => unfold maxLen; omega
      case c4 => omega
      case c5 => simp
      intro vin wx hown2 hgr2 _
      have hbelx := hbel1.grown hgr2 hbel1.size (fun k hk => Nat.le_trans hb1.size (hown.lt k hk).1)
      have hS := Lib.hid (SrcAt.own (by simpa using hown2))
      clear hown hown2 hgr2 hb1 hbel1 HN
      go_wp2_with fail
    all_goals
      clear q
      have HX := Lib.hid (H.out.below hbelx)
      clear H
      obtain ⟨Y, hY⟩ : ∃ Y, Y = (flatM (mapR xs)).toArray := ⟨_, rfl⟩
      obtain ⟨Z, hZ⟩ : ∃ Z, Z = (flatD (dirR xs)).toArray := ⟨_, rfl⟩
      obtain ⟨cm, hcm⟩ : ∃ cm, cm = codeM xs := ⟨_, rfl⟩
      obtain ⟨cd, hcd⟩ : ∃ cd, cd = codeD xs := ⟨_, rfl⟩
      have hYs : Y.size = 16 := by rw [hY]; simp [flatM_length, mapR_length]
      have hone : Y.all (·.oneCell') = true := by rw [hY]; exact flatM_one _
      have hst := fun (w : World) (c : Array Value) (hc : c.size = 16) => run_storeCells_new (P := Tryd.prog) w 24 c Y (by rw [hYs]; kernel_rfl) (by rw [hc, hYs]) hone
      have hstr := fun (w : World) (c : Array Value) (hc : c.size = 16) => run_storeCells_new (P := Tryd.prog) w 33 c Y (by rw [hYs]; kernel_rfl) (by rw [hc, hYs]) hone
      have hZs : Z.size = 8 := by rw [hZ]; simp [flatD_length, dirR_length]
      have hone2 : Z.all (·.oneCell') = true := by rw [hZ]; exact flatD_one _
      have hst2 := fun (w : World) (c : Array Value) (hc : c.size = 8) => run_storeCells_new (P := Tryd.prog) w 40 c Z (by rw [hZs]; kernel_rfl) (by rw [hc, hZs]) hone2
      have hst2r := fun (w : World) (c : Array Value) (hc : c.size = 8) => run_storeCells_new (P := Tryd.prog) w 44 c Z (by rw [hZs]; kernel_rfl) (by rw [hc, hZs]) hone2
      have q33 : ∀ w, (Op.equalIn 10000 33 (.agg Y) (.agg Y)).run Tryd.prog w = .ok true w := fun w => by
        rw [hY]; exact (eqInMr 9997 (mapR xs) (mapR xs) (mapR_length xs) (mapR_length xs) w).trans (by rw [decide_eq_true rfl])
      have q44 : ∀ w, (Op.equalIn 10000 44 (.agg Z) (.agg Z)).run Tryd.prog w = .ok true w := fun w => by
        rw [hZ]; exact (eqInDr 9997 (dirR xs) (dirR xs) (dirR_length xs) (dirR_length xs) w).trans (by rw [decide_eq_true rfl])
      have g33 : Tryd.prog.eqGuardType Tryd.prog.depth 33 = false := by kernel_rfl
      have g44 : Tryd.prog.eqGuardType Tryd.prog.depth 44 = false := by kernel_rfl
      have hrf := Lib.hid (fun w => refMap_any (mapR xs) (mapR_length xs) w)
      have hrd := Lib.hid (fun w => refDir_any (dirR xs) (dirR_length xs) w)
      have r1 : ∀ B w v, SrcAt B w v xs → B ≤ w.heap.size → Calls Tryd.prog 13 #[v] w (fun e w' => e = .returned (.tuple #[.agg Y, .int .i64 cm]) ∧ Below w.heap.size w w') := fun B w v h hB => by
        rw [hY, hcm]; exact readMap_all HB.out hlen h hB
      have r2 : ∀ B w v, SrcAt B w v xs → B ≤ w.heap.size → Calls Tryd.prog 18 #[v] w (fun e w' => e = .returned (.tuple #[.agg Y, .int .i64 cm]) ∧ Below w.heap.size w w') := fun B w v h hB => by
        rw [hY, hcm]; exact refReadMap_all HB.out hlen h hB
      have r3 : ∀ B w v, SrcAt B w v xs → B ≤ w.heap.size → Calls Tryd.prog 17 #[v] w (fun e w' => e = .returned (.tuple #[.agg Z, .int .i64 cd]) ∧ Below w.heap.size w w') := fun B w v h hB => by
        rw [hZ, hcd]; exact readDir_all HB.out hlen h hB
      have r4 : ∀ B w v, SrcAt B w v xs → B ≤ w.heap.size → Calls Tryd.prog 19 #[v] w (fun e w' => e = .returned (.tuple #[.agg Z, .int .i64 cd]) ∧ Below w.heap.size w w') := fun B w v h hB => by
        rw [hZ, hcd]; exact refReadDir_all HB.out hlen h hB
      rw [← hY] at hrf
      rw [← hZ] at hrd
      have R1 := Lib.hid r1; have R2 := Lib.hid r2; have R3 := Lib.hid r3; have R4 := Lib.hid r4
      clear r1 r2 r3 r4
      have HY := Lib.hid hY; have HZ := Lib.hid hZ; have HCM := Lib.hid hcm; have HCD := Lib.hid hcd
      clear hY hZ hcm hcd
      refine (R1.out _ _ _ hS.out (Nat.le_refl _)).mono ?_
      rintro e w2 ⟨rfl, hb2⟩
      have hbel2 := below_call hbelx hb2 (Nat.le_refl _)
      have hX2 := Lib.hid (HX.out.below (hb2.mono hbelx.size))
      have hS2 := Lib.hid (hS.out.below hb2)
      have hs2 := hb2.size
      clear hb2 hS HX
      go_wp2_with fail
      refine (R2.out _ _ _ (hX2.out.below (below_alloc (Below.refl _ w2) hbel2.size _)) (by simp; exact Nat.le_succ_of_le hbel2.size)).mono ?_
      rintro e w3 ⟨rfl, hb3⟩
      have ha3 : Below w2.heap.size w2 w3 := below_call (below_alloc (Below.refl _ w2) (Nat.le_refl _) _) hb3 (Nat.le_refl _)
      have hbel3 := below_call hbel2 ha3 (Nat.le_refl _)
      have k3 := Lib.hid (blk_below hb3 (by simp) (@blk_new w2 (.cells Y 24 (0, 0)) w2.heap.size rfl))
      have hX3 := Lib.hid (hX2.out.below (ha3.mono hbel2.size))
      have hS3 := Lib.hid (hS2.out.below (ha3.mono hs2))
      have hs3 := Nat.le_trans hs2 ha3.size
      clear hb3 hX2 hS2 ha3
      go_wp2_with fail
      refine (R3.out _ _ _ (hS3.out.below (below_alloc (Below.refl _ w3) hs3 _)) (by simp; exact Nat.le_succ_of_le hs3)).mono ?_
      rintro e w4 ⟨rfl, hb4⟩
      have ha4 : Below w3.heap.size w3 w4 := below_call (below_alloc (Below.refl _ w3) (Nat.le_refl _) _) hb4 (Nat.le_refl _)
      have hbel4 := below_call hbel3 ha4 (Nat.le_refl _)
      have k4 := Lib.hid (blk_below ha4 (blk_lt k3.out) k3.out)
      have j4 := Lib.hid (blk_below hb4 (by simp) (@blk_new w3 (.cells Y 33 (0, 0)) w3.heap.size rfl))
      have hX4 := Lib.hid (hX3.out.below (ha4.mono hbel3.size))
      have hS4 := Lib.hid (hS3.out.below (ha4.mono hs3))
      have hs4 := Nat.le_trans hs3 ha4.size
      clear hb4 hX3 hS3 ha4 k3
      go_wp2_with fail
      refine (R4.out _ _ _ (hX4.out.below (below_alloc (Below.refl _ w4) hbel4.size _)) (by simp; exact Nat.le_succ_of_le hbel4.size)).mono ?_
      rintro e w5 ⟨rfl, hb5⟩
      have ha5 : Below w4.heap.size w4 w5 := below_call (below_alloc (Below.refl _ w4) (Nat.le_refl _) _) hb5 (Nat.le_refl _)
      have k5 := Lib.hid (blk_below ha5 (blk_lt k4.out) k4.out)
      have j5 := Lib.hid (blk_below ha5 (blk_lt j4.out) j4.out)
      have i5 := Lib.hid (blk_below hb5 (by simp) (@blk_new w4 (.cells Z 40 (0, 0)) w4.heap.size rfl))
      have hbel5 := below_call hbel4 ha5 (Nat.le_refl _)
      have hX5 := Lib.hid (hX4.out.below (ha5.mono hbel4.size))
      have hS5 := Lib.hid (hS4.out.below (ha5.mono hs4))
      have hs5 := Nat.le_trans hs4 ha5.size
      clear hb5 hX4 hS4 ha5 k4 j4
      go_wp2_with fail
      obtain ⟨T, f, hT, hF, hG⟩ := below_class (w5.heap.size + 1) (w5.alloc (.cells Z 44 (0, 0)))
      obtain ⟨S, hS⟩ : ∃ S, S = strOfNums xs := ⟨_, rfl⟩
      have hbl : ∀ (g : Nat) (o : Obj), w5.heap[g]? = some o → ∀ w', (∃ t, w' = f t) → w'.heap[g]? = some o := fun g o h w' hw => by
        obtain ⟨t, rfl⟩ := hw
        exact blk_below (hF t) (Nat.lt_succ_of_lt (blk_lt h)) (blk_old h)
      have K4 := Lib.hid (hbl _ _ k5.out)
      have K6 := Lib.hid (hbl _ _ j5.out)
      have K8 := Lib.hid (hbl _ _ i5.out)
      have hk10 : ∀ w', (∃ t, w' = f t) → w'.heap[w5.heap.size]? = some (.cells Z 44 (0, 0)) := fun w' hw => by
        obtain ⟨t, rfl⟩ := hw
        exact blk_below (hF t) (Nat.lt_succ_self _) (blk_new rfl)
      have K10 := Lib.hid hk10
      have cvx := fun t => ((hX5.out.below (below_alloc (Below.refl _ w5) hbel5.size (.cells Z 44 (0, 0)))).below ((hF t).mono (Nat.le_succ_of_le hbel5.size))).str
      have cvs := fun t => ((hS5.out.below (below_alloc (Below.refl _ w5) hs5 (.cells Z 44 (0, 0)))).below ((hF t).mono (Nat.le_succ_of_le hs5))).str
      rw [← hS] at cvx cvs
      have HS := Lib.hid hS
      have HF := Lib.hid hF
      have HG := Lib.hid hG
      have C0 := hG _ (below_drewN (Below.refl _ (w5.alloc (.cells Z 44 (0, 0)))) 1)
      have hend : ∀ t, Below w.heap.size w (f t) := fun t => below_call (below_alloc hbel5 (Nat.le_refl _) (.cells Z 44 (0, 0))) ((hF t).mono (by simp)) (Nat.le_refl _)
      have HE := Lib.hid hend
      clear hF hG hS hend hbl hk10 k5 j5 i5
      refine wp_region_class (C := fun w' => ∃ t, w' = f t) (by kernel_rfl) (by kernel_rfl) C0 ?_
      repeat (first
        | (go_big_quiet_step ((go_at_call 12; exact (hrf.out _).mono fun e w'' ⟨he, hb⟩ => ⟨he, HG.out _ (below_call (HF.out _) hb (by simp))⟩)))
        | (go_big_quiet_step ((go_at_call 16; exact (hrd.out _).mono fun e w'' ⟨he, hb⟩ => ⟨he, HG.out _ (below_call (HF.out _) hb (by simp))⟩)))
        | (go_big_quiet_want; refine quiet_load_row _ _ rfl _ rfl _ _ _ _ K4.out Tryd.underlying24 rfl (by rw [hYs]; kernel_rfl) ?_; go_big_quiet_on; simp only [Act.put, List.setIfInBounds_toArray, List.set_cons_succ, List.set_cons_zero])
        | (go_big_quiet_want; refine quiet_load_row _ _ rfl _ rfl _ _ _ _ K6.out Tryd.underlying33 rfl (by rw [hYs]; kernel_rfl) ?_; go_big_quiet_on; simp only [Act.put, List.setIfInBounds_toArray, List.set_cons_succ, List.set_cons_zero])
        | (go_big_quiet_want; refine quiet_load_row _ _ rfl _ rfl _ _ _ _ K8.out Tryd.underlying40 rfl (by rw [hZs]; kernel_rfl) ?_; go_big_quiet_on; simp only [Act.put, List.setIfInBounds_toArray, List.set_cons_succ, List.set_cons_zero])
        | (go_big_quiet_want; refine quiet_load_row _ _ rfl _ rfl _ _ _ _ K10.out Tryd.underlying44 rfl (by rw [hZs]; kernel_rfl) ?_; go_big_quiet_on; simp only [Act.put, List.setIfInBounds_toArray, List.set_cons_succ, List.set_cons_zero]))
      refine wpQuiet_nil ?_
      rintro w9 ⟨t, rfl⟩
      have hbel9 := HE.out t
      have k9 := Lib.hid (K4.out _ ⟨t, rfl⟩)
      have i9 := Lib.hid (K8.out _ ⟨t, rfl⟩)
      have hX9 := Lib.hid ((hX5.out.below (below_alloc (Below.refl _ w5) hbel5.size (.cells Z 44 (0, 0)))).below ((HF.out t).mono (Nat.le_succ_of_le hbel5.size)))
      have hmc : (cm = 0 ∧ okRM xs) ∨ cm = 100 := by
        rw [HCM.out]; unfold codeM
        by_cases hk : okRM xs
        · exact .inl ⟨if_pos hk, hk⟩
        · exact .inr (if_neg hk)
      have hdc : (cd = 0 ∧ okRD xs) ∨ cd = 100 := by
        rw [HCD.out]; unfold codeD
        by_cases hk : okRD xs
        · exact .inl ⟨if_pos hk, hk⟩
        · exact .inr (if_neg hk)
      clear cvx cvs HE HF HG K4 K6 K8 K10 hX5 hS5 C0 R1 R2 R3 R4 HCM HCD hrf hrd q33 q44 g33 g44 hst hstr hst2 hst2r hone hone2 hbel2 hbel3 hbel4 hbel5 hs2 hs3 hs4 hs5
      generalize f t = w9 at k9 i9 hX9 hbel9 ⊢
      clear t hT f T
      rcases hmc with ⟨rfl, hokM⟩ | rfl
      · have HM := Lib.hid (mapBlock_back hokM)
        rw [← HY.out] at HM
        clear hokM
        rcases hdc with ⟨rfl, hokD⟩ | rfl
        · have HD := Lib.hid (dirBlock_back hokD)
          rw [← HZ.out] at HD
          clear hokD
          go_wp2_with (refine wpList_load_row rfl 24 _ rfl _ rfl 24 _ _ _ k9.out Tryd.underlying24 rfl (by rw [hYs]; kernel_rfl) ?_)
          refine (HM.out _).mono ?_
          rintro e wa ⟨⟨x, y, rfl, hsx, rfl⟩, hba⟩
          have hXa := Lib.hid (hX9.out.below (hba.mono hbel9.size))
          have ia := Lib.hid (blk_below hba (blk_lt i9.out) i9.out)
          have hbela := below_call hbel9 hba (Nat.le_refl _)
          have cv1 := hsx.str
          have cv2 := hXa.out.str
          clear hba hsx
          go_wp2_with (refine wpList_load_row rfl 40 _ rfl _ rfl 40 _ _ _ ia.out Tryd.underlying40 rfl (by rw [hZs]; kernel_rfl) ?_)
          refine (HD.out _).mono ?_
          rintro e wb ⟨⟨x', y, rfl, hsx, rfl⟩, hbb⟩
          have hXb := Lib.hid (hXa.out.below (hbb.mono hbela.size))
          have hbelb := below_call hbela hbb (Nat.le_refl _)
          have cv3 := hsx.str
          have cv4 := hXb.out.str
          clear hbb hsx cv1 cv2
          go_wp2_with fail
          go_ret
          exact ⟨rfl, hbelb⟩
        · go_wp2_with (refine wpList_load_row rfl 24 _ rfl _ rfl 24 _ _ _ k9.out Tryd.underlying24 rfl (by rw [hYs]; kernel_rfl) ?_)
          refine (HM.out _).mono ?_
          rintro e wa ⟨⟨x, y, rfl, hsx, rfl⟩, hba⟩
          have hXa := Lib.hid (hX9.out.below (hba.mono hbel9.size))
          have hbela := below_call hbel9 hba (Nat.le_refl _)
          have cv1 := hsx.str
          have cv2 := hXa.out.str
          clear hba hsx
          go_wp2_with fail
          go_ret
          exact ⟨rfl, hbela⟩
      · rcases hdc with ⟨rfl, hokD⟩ | rfl
        · have HD := Lib.hid (dirBlock_back hokD)
          rw [← HZ.out] at HD
          clear hokD
          go_wp2_with (refine wpList_load_row rfl 40 _ rfl _ rfl 40 _ _ _ i9.out Tryd.underlying40 rfl (by rw [hZs]; kernel_rfl) ?_)
          refine (HD.out _).mono ?_
          rintro e wb ⟨⟨x', y, rfl, hsx, rfl⟩, hbb⟩
          have hXb := Lib.hid (hX9.out.below (hbb.mono hbel9.size))
          have hbelb := below_call hbel9 hbb (Nat.le_refl _)
          have cv3 := hsx.str
          have cv4 := hXb.out.str
          clear hbb hsx
          go_wp2_with fail
          go_ret
          exact ⟨rfl, hbelb⟩
        · go_wp2_with fail
          go_ret
          exact ⟨rfl, hbel9⟩
end Go.Proofs.YtggfdhjckohmjaaDoor
