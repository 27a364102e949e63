/- Walk of the statement CacheFull of chapter 9: it returns true. -/
import Derived.Test.YtjldocpjoiibjaaC19
import Derived.Deep.RegionHeld3
import Derived.Deep.RegionLaw
namespace Go.Proofs.Ytjldocpjoiibjaa
open Go.RowKit

set_option maxHeartbeats 4000000 in
set_option maxRecDepth 100000 in
theorem lawFull_any (r which : Int) (pin : Bool) (w : World) : Calls Try.prog 3 #[.int .i64 r, .int .i64 which, .bool pin] w fun e w' => e = .returned (.bool true) ∧ Below w.heap.size w w' := by
  obtain ⟨m, hm0, hm1, hmw⟩ : ∃ m : Nat, 0 < m ∧ m ≤ 30 ∧ RowKit.wrap64 (RowKit.wrap64 ((IntKind.u64.wrap r).tmod 30) + 1) = (m : Int) := by
    have h0 : 0 ≤ IntKind.u64.wrap r := by simp only [IntKind.wrap, IntKind.signed, IntKind.bits]; simp; omega
    refine ⟨(IntKind.u64.wrap r % 30).toNat + 1, by omega, by omega, ?_⟩
    rw [Int.tmod_eq_emod_of_nonneg h0]
    unfold RowKit.wrap64; omega
  have HM := Lib.hid hmw; clear hmw
  have HN := Lib.hid (fun w => cNew_any (room := (m : Int)) (by omega) (by omega) w)
  go_enter Try.func3, Try.ntmps3
  go_wp2_with fail
  refine (awake_any _).mono ?_
  rintro e w1 ⟨rfl, hb1⟩
  go_wp2_with fail
  rw [HM.out]
  refine (HN.out _).mono ?_
  rintro e w2 ⟨cb, rfl, hc2, hb2⟩
  have T0 := Lib.hid (One.mk (W := w) hc2 (fun x h => Nat.le_trans hb1.size h.1) (below_call hb1 hb2 (Nat.le_refl _)))
  clear hc2 hb2 hb1 HN
  go_wp2_with fail
  go_loopw [9] (fun i wr => ∃ (k : Nat) (Q : List Bf) (F : Nat → Prop), k ≤ m ∧ i = .int .i64 k ∧ One w wr cb m k Q F ∧ FullSt Q k pin) (fun i _ => m - (intOf i).toNat)
  case atStart => exact ⟨0, [], _, Nat.zero_le _, rfl, T0.out, rfl, by simp, fun b hb => by cases hb⟩
  case round =>
    obtain ⟨k, Q, F, hk, rfl, T, hst⟩ := hrel
    have HT := Lib.hid T; have HS := Lib.hid hst
    clear T hst T0
    by_cases hlt : k < m
    · go_wp2_with fail
      have kx : KeyAt (wr.alloc (.cells #[.int .i64 0, .int .i64 (k : Int)] 29)) F wr.heap.size 0 (k : Int) := KeyAt.new (blk_new rfl) rfl rfl (fun h => by have := HT.out.c.lt _ h; omega)
      have tx := HT.out.alloc (.cells #[.int .i64 0, .int .i64 (k : Int)] 29)
      generalize hx : wr.alloc (.cells #[.int .i64 0, .int .i64 (k : Int)] 29) = wx at kx tx ⊢
      have hkb : wr.heap.size < wx.heap.size := kx.lt
      generalize wr.heap.size = kb at kx hkb ⊢
      clear hx HT
      have hX := kx.drew.c
      have KX := Lib.hid kx.drew; have TX := Lib.hid tx.drew
      clear kx tx hkb
      have HB := Lib.hid (fun w => bytes_nil none 0 w)
      cases pin
      · have hc0 := hX.1; have hc1 := hX.2
        first
        | go_region_law
          (first
            | (go_simp; go_at_call 10
               refine (put_new (k := (0, (k : Int))) TA.out.c (HS.out.fresh (Int.le_refl _)) (by rw [HS.out.len]; omega) DA.out (by omega) (by omega) (by rw [HS.out.len]; omega)).mono ?_
               rintro e wB ⟨nb, n, hnb, hn, rfl, hcB, hfB⟩
               have TB := Lib.hid (TA.out.step hcB hfB Fx_old)
               have SB := Lib.hid (HS.out.cons (full_put (l := zeros64) (d := true) hn ((k : Int) + 1)) rfl ⟨rfl, rfl⟩)
               clear hcB hfB hn
               dsimp only)
            | (go_simp; go_at_call 11; refine (HB.out _).mono ?_; rintro e wA ⟨g, rfl, hg1, hg2, hbA, hdA⟩
               have TA := Lib.hid (TX.out.below hbA); have KA := Lib.hid (KX.out.below hbA); have hA0 := KA.out.c.1; have hA1 := KA.out.c.2
               have DA := Lib.hid (dataNew zeros64_len zeros64_one hdA TX.out.c.lt hg1 hg2)
               clear hg1 hg2 hbA hdA
               dsimp only))
        | fail
        all_goals
          go_wp2_with fail
          go_round
          case rel => exact ⟨k + 1, _, _, by omega, by go_num, TB.out, SB.out⟩
          case measure => simp [intOf]; omega
      · first
        | go_region_held3 (fun w' => w'.cell? ⟨kb, 0, none⟩ = some (.int .i64 0) ∧ w'.cell? ⟨kb, 1, none⟩ = some (.int .i64 (k : Int)))
          (first | assumption)
          (first
            | (go_at_call 11; refine (HB.out _).mono ?_; rintro e wA ⟨g, rfl, hg1, hg2, hbA, hdA⟩
               have TA := Lib.hid (TX.out.below hbA); have KA := Lib.hid (KX.out.below hbA); have hA := KA.out.c
               have DA := Lib.hid (dataNew zeros64_len zeros64_one hdA TX.out.c.lt hg1 hg2)
               clear hg1 hg2 hbA hdA
               dsimp only)
            | (go_at_call 10
               refine (put_new (k := (0, (k : Int))) TA.out.c (HS.out.fresh (Int.le_refl _)) (by rw [HS.out.len]; omega) DA.out (by omega) (by omega) (by rw [HS.out.len]; omega)).mono ?_
               rintro e wB ⟨nb, n, hnb, hn, rfl, hcB, hfB⟩
               have TB := Lib.hid (TA.out.step hcB hfB Fx_old); have KB := Lib.hid (KeyAt.step (F' := Fx F wA wB) KA.out hfB Fx_old); have hB := KB.out.c
               have PB := full_put (l := zeros64) (d := false) hn ((k : Int) + 1)
               obtain ⟨n2, N2⟩ := perm_at PB
               have NB := Lib.hid N2; have PP := Lib.hid PB
               clear hcB hfB hn PB N2
               dsimp only)
            | (go_at_call 12
               refine (cPin_any (b := ((newB nb (0, (k : Int))).put zeros64 false).setStamp ((k : Int) + 1)) TB.out.c NB.out (by rfl) (by show (0 : Int) ≤ 0; decide) (by show (0 : Int) ≤ _; decide)).mono ?_
               rintro e wC ⟨rfl, hcC, hfC⟩
               have TC := Lib.hid (TB.out.same hcC hfC); have hC := (KB.out.same hfC).c
               have SB := Lib.hid (HS.out.cons (set_perm (b' := (((newB nb (0, (k : Int))).put zeros64 false).setStamp ((k : Int) + 1)).setPins 1) PP.out NB.out) rfl ⟨rfl, rfl⟩)
               clear hcC hfC NB PP
               dsimp only))
        | fail
        all_goals
          go_wp2_with fail
          go_round
          case rel => exact ⟨k + 1, _, _, by omega, by go_num, TC.out, SB.out⟩
          case measure => simp [intOf]; omega
    · obtain rfl : k = m := by omega
      obtain ⟨j, hj, hjw⟩ : ∃ j : Nat, j < k ∧ RowKit.wrap64 ((IntKind.u64.wrap which).tmod (k : Int)) = (j : Int) := by
        have h0 : 0 ≤ IntKind.u64.wrap which := by simp only [IntKind.wrap, IntKind.signed, IntKind.bits]; simp; omega
        have h2 := Int.emod_lt_of_pos (IntKind.u64.wrap which) (show (0 : Int) < (k : Int) by omega)
        have h3 := Int.emod_nonneg (IntKind.u64.wrap which) (show (k : Int) ≠ 0 by omega)
        refine ⟨(IntKind.u64.wrap which % (k : Int)).toNat, by omega, ?_⟩
        rw [Int.tmod_eq_emod_of_nonneg h0]
        unfold RowKit.wrap64; omega
      go_wp2_with fail
      rw [hjw]
      obtain ⟨A, hA⟩ : ∃ A, A = Obj.cells #[.int .i64 0, .int .i64 (j : Int)] 29 (0, 0) := ⟨_, rfl⟩
      obtain ⟨B, hB⟩ : ∃ B, B = Obj.cells #[.int .i64 0, .int .i64 1000] 29 (0, 0) := ⟨_, rfl⟩
      have ba : (wr.alloc A).heap[wr.heap.size]? = some A := blk_new rfl
      have bb : ((wr.alloc A).alloc B).heap[wr.heap.size + 1]? = some B := blk_new (by simp)
      rw [← hA, ← hB]
      have t0 := HT.out
      have ka := (KeyAt.new (x := 0) (y := (j : Int)) (ba.trans (congrArg some hA)) rfl rfl (fun h => by have := t0.c.lt _ h; omega)).alloc B
      have kf := KeyAt.new (x := 0) (y := 1000) (bb.trans (congrArg some hB)) rfl rfl (fun h => by have := t0.c.lt _ h; omega)
      have tx := (t0.alloc A).alloc B
      generalize (wr.alloc A).alloc B = wx at ka kf tx ⊢
      have hne : wr.heap.size ≠ wr.heap.size + 1 := by omega
      generalize wr.heap.size + 1 = fb at kf hne ⊢
      generalize wr.heap.size = kb at ka hne ⊢
      clear t0 ba bb hA hB HT hne A B hjw HM hlt hk
      have hXa := ka.drew.c; have hXf := kf.drew.c
      have KX := Lib.hid ka.drew; have FX := Lib.hid kf.drew; have TX := Lib.hid tx.drew
      clear ka kf tx
      have HB := Lib.hid (fun w => bytes_nil none 0 w)
      have S0 := Lib.hid HS.out.full
      have hk1 : (k : Int) ≤ 1000 := by omega
      first
        | go_region_held3 (fun w' => (w'.cell? ⟨kb, 0, none⟩ = some (.int .i64 0) ∧ w'.cell? ⟨kb, 1, none⟩ = some (.int .i64 (j : Int))) ∧ w'.cell? ⟨fb, 0, none⟩ = some (.int .i64 0) ∧ w'.cell? ⟨fb, 1, none⟩ = some (.int .i64 1000))
          (first | exact ⟨hXa, hXf⟩ | exact ⟨hAa, hAf⟩ | exact ⟨hBa, hBf⟩ | exact ⟨(KB.out.alloc _).c, (FB.out.alloc _).c⟩ | exact ⟨hCa, hCf⟩ | exact ⟨hDa, hDf⟩)
          (first
            | (go_at_call 13
               refine (cLen_any TD.out.c).mono ?_
               rintro e wE ⟨rfl, hw⟩
               obtain rfl := hw.symm
               rw [SD.out.len]
               dsimp only)
            | (go_at_call 10
               obtain ⟨n1, b1, hn1, hk1⟩ := S0.out.has hj
               have hcl := put_old (d := false) (c := 64) TC.out.c hn1 DC.out (by omega) (by omega) (by rw [S0.out.len]; omega)
               rw [hk1] at hcl
               refine hcl.mono ?_
               rintro e wD ⟨rfl, hcD, hfD⟩
               have TD := Lib.hid (TC.out.same hcD hfD); have KD := Lib.hid (KC.out.same hfD); have FD := Lib.hid (FC.out.same hfD); have hDa := KD.out.c; have hDf := FD.out.c
               have SD := Lib.hid (S0.out.put hn1 (part64 3 64) ((k : Int) + 1))
               clear hcD hfD hcl
               dsimp only)
            | (go_at_call 11; have hBl := TB.out.c.lt; refine (bytes_one (x := 3) (cell_blk_some (blk_new rfl) rfl) (by simp)).mono ?_; rintro e wC ⟨g', rfl, hg1, hg2, hbC, hdC⟩
               have TC := Lib.hid ((TB.out.alloc _).below hbC); have KC := Lib.hid ((KB.out.alloc _).below hbC); have FC := Lib.hid ((FB.out.alloc _).below hbC); have hCa := KC.out.c; have hCf := FC.out.c
               have DC := Lib.hid (dataNew (part64_len 3) (part64_one 3) hdC (TB.out.alloc _).c.lt hg1 hg2)
               clear hg1 hg2 hbC hdC
               dsimp only)
            | (go_at_call 10
               refine (put_full (k := (0, 1000)) TA.out.c (HS.out.fresh hk1) (by rw [HS.out.len]) (evX_stuck HS.out.stuck) DA.out (by omega) (by omega) (by rw [HS.out.len]; omega)).mono ?_
               rintro e wB ⟨rfl, hcB, hfB⟩
               have TB := Lib.hid (TA.out.step hcB hfB Fx_old); have KB := Lib.hid (KeyAt.step (F' := Fx F wA wB) KA.out hfB Fx_old); have FB := Lib.hid (KeyAt.step (F' := Fx F wA wB) FA.out hfB Fx_old)
               have hBa := KB.out.c; have hBf := FB.out.c
               clear hcB hfB
               dsimp only)
            | (go_at_call 11; refine (HB.out _).mono ?_; rintro e wA ⟨g, rfl, hg1, hg2, hbA, hdA⟩
               have TA := Lib.hid (TX.out.below hbA); have KA := Lib.hid (KX.out.below hbA); have FA := Lib.hid (FX.out.below hbA); have hAa := KA.out.c; have hAf := FA.out.c
               have DA := Lib.hid (dataNew zeros64_len zeros64_one hdA TX.out.c.lt hg1 hg2)
               clear hg1 hg2 hbA hdA
               dsimp only))
        | fail
      have hok2 := fun b hb => TD.out.c.bufok (b := b) hb
      generalize useQ ((evF Q).set n1 (b1.put (part64 3 64) false)) n1 ((k : Int) + 1) = Q2 at TD SD hok2 ⊢
      generalize Fx F wA wB = F2 at TD KD FD
      clear S0 TA KA FA TB KB FB TC KC FC HS hn1 hk1 hXa hXf hAa hAf hBa hBf hCa hCf hDa hDf TX KX FX DA DC
      obtain ⟨n2, b2, hn2, hk2⟩ := SD.out.has hj
      have hb2 := SD.out.all b2 (List.mem_of_getElem? hn2)
      have hok := hok2 b2 (List.mem_of_getElem? hn2)
      clear hok2
      obtain ⟨ca, cb'⟩ := KD.out.c
      cases pin
      · go_wp2_with fail
        have hcl := cClean_any TD.out.c hn2 hok
        rw [hk2] at hcl
        refine hcl.mono ?_
        rintro e wE ⟨rfl, hcE, hfE⟩
        have TE := Lib.hid (TD.out.same hcE hfE); have KE := Lib.hid (KD.out.same hfE); have FE := Lib.hid (FD.out.same hfE)
        have RE := Lib.hid (SD.out.free hn2 hk2 (b' := b2.setDirty false) rfl (by show (false || decide (0 < b2.pins)) = false; rw [hb2.2]; rfl))
        clear hcE hfE hcl TD KD FD SD ca cb'
        generalize Q2.set n2 (b2.setDirty false) = Q3 at TE RE
        generalize Q2.eraseIdx n2 = R at RE
        generalize b2.setDirty false = b0 at RE
        clear hb2 hok hn2 hk2
        obtain ⟨n3, hn3⟩ := RE.out.at
        obtain ⟨d0, d1⟩ := KE.out.c
        go_wp2_with fail
        have hg := cGet_any TE.out.c hn3 (by omega) (by omega) (by rw [RE.out.len]; omega)
        rw [RE.out.key] at hg
        refine hg.mono ?_
        rintro e wF ⟨v5, rfl, -, hcF, hfF⟩
        have TF := Lib.hid (TE.out.same hcF hfF).drew; have KF := Lib.hid (KE.out.same hfF).drew; have FF := Lib.hid (FE.out.same hfF).drew
        have RF := Lib.hid (RE.out.use hn3 ((k : Int) + 1 + 1))
        clear hcF hfF hg TE KE FE d0 d1
        generalize useQ Q3 n3 ((k : Int) + 1 + 1) = Q4 at TF RF
        generalize b0.setStamp ((k : Int) + 1 + 1) = b4 at RF
        clear hn3 RE
        go_wp2_with fail
        have hFf := FF.out.c
        go_region_held3 (fun w' => w'.cell? ⟨fb, 0, none⟩ = some (.int .i64 0) ∧ w'.cell? ⟨fb, 1, none⟩ = some (.int .i64 1000))
          (first | assumption)
          (first
            | (go_at_call 10
               refine (put_evict (k := (0, 1000)) TG.out.c (RF.out.fresh hk1) (by rw [RF.out.len]) (by rw [RF.out.ev]; rfl) DG.out (by omega) (by omega) (by rw [RF.out.len]; omega)).mono ?_
               rintro e wH ⟨nb, n, hnb, hn, rfl, hcH, hfH⟩
               have TH := Lib.hid (TG.out.step hcH hfH Fx_old); have KH := Lib.hid (KeyAt.step (F' := Fx F2 wG wH) KG.out hfH Fx_old); have hHf := (KeyAt.step (F' := Fx F2 wG wH) FG.out hfH Fx_old).c
               have GH := Lib.hid (RF.out.gone (full_put (l := zeros64) (d := true) hn ((k : Int) + 1 + 1 + 1)) rfl (by omega) TG.out.c.keysNodup)
               clear hcH hfH hn hnb
               dsimp only)
            | (go_at_call 11; refine (HB.out _).mono ?_; rintro e wG ⟨g, rfl, hg1, hg2, hbG, hdG⟩
               have TG := Lib.hid (TF.out.below hbG); have KG := Lib.hid (KF.out.below hbG); have FG := Lib.hid (FF.out.below hbG); have hGf := FG.out.c
               have DG := Lib.hid (dataNew zeros64_len zeros64_one hdG TF.out.c.lt hg1 hg2)
               clear hg1 hg2 hbG hdG
               dsimp only))
        generalize useQ ((hpush (evF Q4) (newB nb (0, 1000))).set n ((newB nb (0, 1000)).put zeros64 true)) n ((k : Int) + 1 + 1 + 1) = Q5 at TH GH
        generalize Fx F2 wG wH = F5 at TH KH
        clear TG KG FG DG TF KF FF hFf hGf hHf
        obtain ⟨d0, d1⟩ := KH.out.c
        go_wp2_with fail
        refine (cGet_miss (k := (0, (j : Int))) TH.out.c GH.out.1).mono ?_
        rintro e wI ⟨rfl, hcI, hfI⟩
        have TI := Lib.hid (TH.out.same hcI hfI)
        clear hcI hfI TH KH d0 d1
        go_wp2_with fail
        refine (cLen_any TI.out.c).mono ?_
        rintro e wJ ⟨rfl, hw⟩
        obtain rfl := hw.symm
        rw [GH.out.2]
        go_wp2_with fail
        go_ret
        exact ⟨rfl, TI.out.bel⟩
      · go_wp2_with fail
        have hcl := cUnpin_any TD.out.c hn2 hok (by rw [hb2.2]; decide) (by rw [hb2.2]; decide)
        rw [hk2] at hcl
        refine hcl.mono ?_
        rintro e wE ⟨rfl, hcE, hfE⟩
        have TE := Lib.hid (TD.out.same hcE hfE); have KE := Lib.hid (KD.out.same hfE); have FE := Lib.hid (FD.out.same hfE)
        have RE := Lib.hid (SD.out.free hn2 hk2 (b' := b2.setPins (b2.pins - 1)) rfl (by show (b2.dirty || decide (0 < b2.pins - 1)) = false; rw [hb2.1, hb2.2]; rfl))
        clear hcE hfE hcl TD KD FD SD ca cb'
        generalize Q2.set n2 (b2.setPins (b2.pins - 1)) = Q3 at TE RE
        generalize Q2.eraseIdx n2 = R at RE
        generalize b2.setPins (b2.pins - 1) = b0 at RE
        clear hb2 hok hn2 hk2
        obtain ⟨n3, hn3⟩ := RE.out.at
        obtain ⟨d0, d1⟩ := KE.out.c
        go_wp2_with fail
        have hg := cGet_any TE.out.c hn3 (by omega) (by omega) (by rw [RE.out.len]; omega)
        rw [RE.out.key] at hg
        refine hg.mono ?_
        rintro e wF ⟨v5, rfl, -, hcF, hfF⟩
        have TF := Lib.hid (TE.out.same hcF hfF).drew; have KF := Lib.hid (KE.out.same hfF).drew; have FF := Lib.hid (FE.out.same hfF).drew
        have RF := Lib.hid (RE.out.use hn3 ((k : Int) + 1 + 1))
        clear hcF hfF hg TE KE FE d0 d1
        generalize useQ Q3 n3 ((k : Int) + 1 + 1) = Q4 at TF RF
        generalize b0.setStamp ((k : Int) + 1 + 1) = b4 at RF
        clear hn3 RE
        go_wp2_with fail
        have hFf := FF.out.c
        go_region_held3 (fun w' => w'.cell? ⟨fb, 0, none⟩ = some (.int .i64 0) ∧ w'.cell? ⟨fb, 1, none⟩ = some (.int .i64 1000))
          (first | assumption)
          (first
            | (go_at_call 10
               refine (put_evict (k := (0, 1000)) TG.out.c (RF.out.fresh hk1) (by rw [RF.out.len]) (by rw [RF.out.ev]; rfl) DG.out (by omega) (by omega) (by rw [RF.out.len]; omega)).mono ?_
               rintro e wH ⟨nb, n, hnb, hn, rfl, hcH, hfH⟩
               have TH := Lib.hid (TG.out.step hcH hfH Fx_old); have KH := Lib.hid (KeyAt.step (F' := Fx F2 wG wH) KG.out hfH Fx_old); have hHf := (KeyAt.step (F' := Fx F2 wG wH) FG.out hfH Fx_old).c
               have GH := Lib.hid (RF.out.gone (full_put (l := zeros64) (d := true) hn ((k : Int) + 1 + 1 + 1)) rfl (by omega) TG.out.c.keysNodup)
               clear hcH hfH hn hnb
               dsimp only)
            | (go_at_call 11; refine (HB.out _).mono ?_; rintro e wG ⟨g, rfl, hg1, hg2, hbG, hdG⟩
               have TG := Lib.hid (TF.out.below hbG); have KG := Lib.hid (KF.out.below hbG); have FG := Lib.hid (FF.out.below hbG); have hGf := FG.out.c
               have DG := Lib.hid (dataNew zeros64_len zeros64_one hdG TF.out.c.lt hg1 hg2)
               clear hg1 hg2 hbG hdG
               dsimp only))
        generalize useQ ((hpush (evF Q4) (newB nb (0, 1000))).set n ((newB nb (0, 1000)).put zeros64 true)) n ((k : Int) + 1 + 1 + 1) = Q5 at TH GH
        generalize Fx F2 wG wH = F5 at TH KH
        clear TG KG FG DG TF KF FF hFf hGf hHf
        obtain ⟨d0, d1⟩ := KH.out.c
        go_wp2_with fail
        refine (cGet_miss (k := (0, (j : Int))) TH.out.c GH.out.1).mono ?_
        rintro e wI ⟨rfl, hcI, hfI⟩
        have TI := Lib.hid (TH.out.same hcI hfI)
        clear hcI hfI TH KH d0 d1
        go_wp2_with fail
        refine (cLen_any TI.out.c).mono ?_
        rintro e wJ ⟨rfl, hw⟩
        obtain rfl := hw.symm
        rw [GH.out.2]
        go_wp2_with fail
        go_ret
        exact ⟨rfl, TI.out.bel⟩
end Go.Proofs.Ytjldocpjoiibjaa
