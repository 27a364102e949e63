/- Walk of the reference's Rename (printed by tools/genref.py). -/
import Derived.Test.YtoofcnehoffllaaGreatR16
namespace Go.Proofs.YtoofcnehoffllaaGreat
open Go.RowKit

section
variable {D : Nat → Prop} {w : World} {v : Value} {cap : Nat} {M : TM}
set_option maxHeartbeats 16000000 in
set_option maxRecDepth 100000 in
theorem refRenameD_any (h : RefIs D w v cap (refM M)) (hG : Good M cap) (old s : ByteArray) (ho : old.size ≤ 1000000) (hs : s.size ≤ 1000000) (hdir : ∀ i, lookN M old = .inl i → isDir M i = true) :
    Calls Tryz.prog 28 #[treeV v, .string old, .string s] w fun e w' => ∃ v', e = .returned (.tuple #[treeV v', .int .i64 (renameN M old s).1]) ∧ RefIs (fun b => D b ∨ w.heap.size ≤ b) w' v' cap (refM (renameN M old s).2) ∧ Below w.heap.size w w' := by
  have hcap := h.1
  obtain ⟨g, c, hvv, hD, hg, hn⟩ := h.at_
  subst hvv
  have HR0 := Lib.hid h.two; have HG := Lib.hid hG
  have HF0 := Lib.hid (FrT.start w (.slice (some ⟨g, 0, none⟩) cap c))
  have HR00 := Lib.hid (h.two.below HF0.out.bel)
  clear h hn hG
  unfold treeV
  go_enter Tryz.func28, Tryz.ntmps28
  generalize hw0 : (w.alloc (.cells #[.slice (some ⟨g, 0, none⟩) cap c] 30 (0, 0))).alloc (.cells #[.slice none 0 0] 30 (0, 0)) = w0 at HF0 HR00
  go_wp2_with fail
  clear hw0 HR0
  have HR0 := HR00
  clear HR00
  refine (refParent_any old ho w0).mono ?_
  rintro e w1 ⟨u1, rfl, hst1, hb1⟩
  have HF1 := Lib.hid (HF0.out.below hb1)
  have HR1 := Lib.hid (HR0.out.below hb1)
  have a1 := HF1.out.c0; have b1 := HF1.out.c1; have d1 := HF1.out.f1
  have HB1 := Lib.hid hb1
  clear hb1
  clear hst1
  by_cases h1 : parE old = 0
  · rw [h1]
    go_wp2_with fail
    refine (refParent_any s hs w1).mono ?_
    rintro e w2 ⟨u2, rfl, hst2, hb2⟩
    have HF2 := Lib.hid (HF1.out.below hb2)
    have HR2 := Lib.hid (HR1.out.below hb2)
    have a2 := HF2.out.c0; have b2 := HF2.out.c1; have d2 := HF2.out.f1
    have HB2 := Lib.hid hb2
    clear hb2 a1 b1 d1
    clear hst2
    by_cases h2 : parE s = 0
    · rw [h2]
      go_wp2_with fail
      refine (refLook_any HR2.out HG.out.1.ok old ho).mono ?_
      rintro e w3 ⟨rfl, hb3⟩
      have HF3 := Lib.hid (HF2.out.below hb3)
      have HR3 := Lib.hid (HR2.out.below hb3)
      have a3 := HF3.out.c0; have b3 := HF3.out.c1; have d3 := HF3.out.f1
      have HB3 := Lib.hid hb3
      clear hb3 a2 b2 d2
      have HL1 := Lib.hid h1; have HL2 := Lib.hid h2
      clear h1 h2
      cases hl : lookN M old with
      | inr q =>
        have hq := look_nz hl
        have HMK : Hid (renameN M old s = (q, M)) := Lib.hid (by unfold renameN; rw [if_neg (by rw [HL1.out]; decide), if_neg (by rw [HL2.out]; decide), hl])
        have hz : (q != 0) = true := by simp [hq]
        unfold ledV
        dsimp only
        clear hl hq
        go_wp2_with fail
        obtain ⟨r1, r2, r3⟩ := HF3.out.ret HR3.out
        refine bodyPost_ret (results_row_tmp rfl _ _ (w.heap.size + 1) _ _ _ _ rfl r1 Tryz.underlying30 rfl (by kernel_rfl)) rfl ?_
        rw [HMK.out]
        exact ⟨_, rfl, r2, r3⟩
      | inl i =>
        have hdi := hdir i hl
        have hdn := Lib.hid hdi
        obtain ⟨nd, hm⟩ := Option.isSome_iff_exists.1 (look_is HG.out.1.ok hl)
        have hic := (HG.out.1.ok.low i nd hm).2
        have hi2 := (HG.out.1.ok.low i nd hm).1
        have i0 : (0 : Int) ≤ (i : Int) := by omega
        have i1 : (i : Int) < (cap : Int) := by omega
        have HM := Lib.hid hm; have HLO := Lib.hid hl; have HIC := Lib.hid hic; have HI2 := Lib.hid hi2
        unfold ledV
        dsimp only
        clear hl hm hic hi2 hdir hdi
        go_wp2_with fail
        refine (refPlace_any HR3.out HG.out.1.ok s hs).mono ?_
        rintro e w4 ⟨p, la, ofb, rfl, hpl, hb4⟩
        have HF4 := Lib.hid (HF3.out.below hb4)
        have HR4 := Lib.hid (HR3.out.below hb4)
        have a4 := HF4.out.c0; have b4 := HF4.out.c1; have d4 := HF4.out.f1
        have HB4 := Lib.hid hb4
        clear hb4 a3 b3 d3
        by_cases hz : placeC M s = 0
        · obtain ⟨hl, hpd, rfl, rfl⟩ := hpl hz
          rw [hz]
          obtain ⟨ndp, fp, hmp, -⟩ := isDir_there hpd
          have hpc := (HG.out.1.ok.low p ndp hmp).2
          have HL := Lib.hid hl; have HPD := Lib.hid hpd; have HPC := Lib.hid hpc; have HZ := Lib.hid hz
          clear hpl hl hpd hmp hpc hz
          obtain ⟨ho1, ho2⟩ := par_split HL1.out
          obtain ⟨hs1, hs2⟩ := par_split HL2.out
          have HSO := Lib.hid (fun wx => refSplit_any old ho wx); have HSS := Lib.hid (fun wx => refSplit_any s hs wx)
          unfold SplitPost at HSO HSS
          rw [ho1, ho2] at HSO
          rw [hs1, hs2] at HSS
          generalize hna : parN old ++ [parL old] = na at *
          generalize hnb : parN s ++ [parL s] = nb at *
          have HNA := Lib.hid hna; have HNB := Lib.hid hnb
          have hla : na.length ≤ 1000 := by have := splitN_count old; rw [ho2] at this; exact this
          have hlb : nb.length ≤ 1000 := by have := splitN_count s; rw [hs2] at this; exact this
          have HSZ : Hid (∀ x ∈ nb, x.size ≤ 1000000) := Lib.hid (by
            intro x hx
            have := splitN_size s x (by rw [hs2]; exact hx)
            omega)
          have HLB : Hid (0 ≤ longN nb ∧ longN nb ≤ 2000000000) := Lib.hid (by
            have := longN_bd nb HSZ.out
            omega)
          have HPR : Hid (isPre na (parN s) = (decide (na.length < nb.length) && isPre na nb)) := Lib.hid (pre_par hnb)
          clear hna hnb ho1 ho2 hs1 hs2
          generalize hdo : splitD old = sdo at *
          clear hdo
          generalize hds : splitD s = sds at *
          have HDS := Lib.hid hds
          clear hds
          go_wp2_with fail
          refine (HSO.out w4).mono ?_
          rintro e w5 ⟨u3, rfl, hst3, hb5⟩
          have HF5 := Lib.hid (HF4.out.below hb5)
          have HR5 := Lib.hid (HR4.out.below hb5)
          have a5 := HF5.out.c0; have b5 := HF5.out.c1; have d5 := HF5.out.f1
          have HB5 := Lib.hid hb5
          clear hb5 a4 b4 d4
          have HST3 := Lib.hid hst3
          clear hst3 HSO
          go_wp2_with fail
          refine (HSS.out w5).mono ?_
          rintro e w6 ⟨u4, rfl, hst4, hb6⟩
          have HF6 := Lib.hid (HF5.out.below hb6)
          have HR6 := Lib.hid (HR5.out.below hb6)
          have a6 := HF6.out.c0; have b6 := HF6.out.c1; have d6 := HF6.out.f1
          have HB6 := Lib.hid hb6
          clear hb6 a5 b5 d5
          have HST4 := Lib.hid hst4
          have HST3b := Lib.hid ((HST3.out.below HB6.out).mono HB6.out.size)
          clear hst4 HSS HST3
          obtain ⟨a3, c3, rfl⟩ := HST3b.out.shape
          obtain ⟨a4, c4, rfl⟩ := HST4.out.shape
          obtain ⟨g', c', hv', -, hg', hkd'⟩ := HR6.out.kds
          obtain ⟨hv1, -, -⟩ := Value.slice.inj hv'
          have hgg : g = g' := by injection hv1 with hv1; injection hv1
          subst hgg
          have k0 := hkd' i HIC.out
          clear hv' hv1 hg' hkd' 
          rw [refM_dir hdn.out] at k0
          by_cases hlen : na.length < nb.length
          · have hcl : decide ((na.length : Int) < (nb.length : Int)) = true := dec_true (by omega)
            go_wp2_with fail
            refine (begins_any HST4.out HST3b.out (Nat.le_refl _) hlb hla).mono ?_
            rintro e w7 ⟨rfl, hb7⟩
            have HF7 := Lib.hid (HF6.out.below hb7)
            have HR7 := Lib.hid (HR6.out.below hb7)
            have a7 := HF7.out.c0; have b7 := HF7.out.c1; have d7 := HF7.out.f1
            have HB7 := Lib.hid hb7
            clear hb7 a6 b6 d6
            clear k0
            cases hpre : isPre na nb with
            | true =>
              have HMK : Hid (renameN M old s = (22, M)) := Lib.hid (by unfold renameN; rw [if_neg (by rw [HL1.out]; decide), if_neg (by rw [HL2.out]; decide), HLO.out]; dsimp only; rw [if_neg (by rw [HZ.out]; decide), HL.out]; dsimp only; rw [HNA.out, HPR.out, hpre, hdn.out, decide_eq_true hlen]; rfl)
              clear hpre hlen
              go_wp2_with fail
              obtain ⟨r1, r2, r3⟩ := HF7.out.ret HR7.out
              refine bodyPost_ret (results_row_tmp rfl _ _ (w.heap.size + 1) _ _ _ _ rfl r1 Tryz.underlying30 rfl (by kernel_rfl)) rfl ?_
              rw [HMK.out]
              exact ⟨_, rfl, r2, r3⟩
            | false =>
              have HPF : Hid (isPre na (parN s) = false) := Lib.hid (by rw [HPR.out, hpre, Bool.and_false])
              clear hpre hlen hcl
              have HST4b := Lib.hid ((HST4.out.below HB7.out).mono HB7.out.size)
              clear HST3b HST4
              cases sds
              all_goals
                have HE := Lib.hid (entry_any HR7.out HPC.out (parL s))
                cases hen : entN M p (parL s) with
                | none =>
                  have hen2 : entI (refM M p).en (parL s) = 0 := by unfold entI; rw [refM_en, hen]; rfl
                  rw [hen2] at HE
                  have hne : ((0 : Int) == (i : Int)) = false := by have := HI2.out; simp; omega
                  have HEN := Lib.hid hen
                  clear hen hen2
                  go_wp2_with fail
                  refine (HE.out).mono ?_
                  rintro e w8 ⟨rfl, hb8⟩
                  have HF8 := Lib.hid (HF7.out.below hb8)
                  have HR8 := Lib.hid (HR7.out.below hb8)
                  have a8 := HF8.out.c0; have b8 := HF8.out.c1; have d8 := HF8.out.f1
                  have HB8 := Lib.hid hb8
                  clear hb8 a7 b7 d7
                  have HRN : Hid (renameN M old s = movedN M M old s p i) := Lib.hid (by unfold renameN; rw [if_neg (by rw [HL1.out]; decide), if_neg (by rw [HL2.out]; decide), HLO.out]; dsimp only; rw [if_neg (by rw [HZ.out]; decide), HL.out]; dsimp only; rw [HNA.out, HPF.out, Bool.and_false, if_neg (by decide), hdn.out]; rw [if_neg (by simp)]; rw [HEN.out])
                  have HOK : Hid (∀ f, leadN M 2 (parN old) = .inl f → entN M f (parL old) = some i → MvOk M M old s p i f) := Lib.hid fun f h3 h4 => ⟨h3, h4, HL.out, HPD.out, by first | (rw [HNA.out, HPF.out, Bool.and_false]) | (rw [hdn.out, Bool.false_and]), .inl ⟨HEN.out, rfl⟩⟩
                  go_wp2_with fail
                  obtain ⟨lp, hlp⟩ := HG.out.1.reach i (by rw [HM.out]; rfl)
                  have HDP := Lib.hid (fun wx hb => refDeep_any HG.out.1 HG.out.2 256 lp i wx hlp (by omega) (HR8.out.below hb))
                  obtain ⟨Z, hZ⟩ := deep_exists HG.out.2 hlp
                  obtain ⟨z1, z2⟩ := hZ.bd HG.out.2 hlp
                  have hZN := deepN_of hZ
                  have HZN := Lib.hid hZN
                  rw [hZN] at HDP
                  unfold treeV at HDP
                  obtain ⟨l1, l2⟩ := HLB.out
                  have hwz : IntKind.i64.wrap (longN nb + Z) = longN nb + Z := IntWalk.i64_in _ (by omega)
                  obtain ⟨T, f, hT, hF, hG2⟩ := below_class w8.heap.size w8
                  have t0 : ∀ t, (f t).cell? ⟨w.heap.size, 0, none⟩ = some (.slice (some ⟨g, 0, none⟩) cap c) := fun t => (HF8.out.below (hF t)).c0
                  have HLT : Hid (∀ t, Calls Tryz.prog 53 #[.slice a4 nb.length c4] (f t) fun e w' => e = .returned (.int .i64 (longN nb)) ∧ w' = f t) := Lib.hid fun t => refLong_any ((HST4b.out.below HB8.out).below ((hF t).mono HB8.out.size)) hlb HSZ.out
                  have HDT : Hid (∀ t, Calls Tryz.prog 59 #[.agg #[.slice (some ⟨g, 0, none⟩) cap c], .int .i64 i] (f t) fun e w' => e = .returned (.int .i64 Z) ∧ Below (f t).heap.size (f t) w') := Lib.hid fun t => HDP.out _ (hF t)
                  have HF := Lib.hid hF; have HG2 := Lib.hid hG2
                  have C0 := hG2 _ (below_drewN (Below.refl _ w8) 1)
                  clear hF hG2 hZ hZN HDP hlp lp
                  refine wp_region_class (C := fun w' => ∃ t, w' = f t) (by kernel_rfl) (by kernel_rfl) C0 ?_
                  repeat (first
                    | (go_big_quiet_step ((go_at_call 59; exact (HDT.out _).mono fun e w'' ⟨he, hb⟩ => ⟨he, HG2.out _ (below_call (HF.out _) hb (Nat.le_refl _))⟩)))
                    | (go_big_quiet_step ((go_at_call 53; exact (HLT.out _).mono fun e w'' ⟨he, hb⟩ => ⟨he, ⟨_, hb⟩⟩))))
                  refine wpQuiet_nil ?_
                  rintro w9 ⟨t, rfl⟩
                  have HB9 := Lib.hid (HF.out t)
                  clear t0 HLT HDT C0 HF HG2
                  generalize f t = w9 at HB9 ⊢
                  clear t hT f T
                  have HF9 := Lib.hid (HF8.out.below HB9.out)
                  have HR9 := Lib.hid (HR8.out.below HB9.out)
                  have a9 := HF9.out.c0; have b9 := HF9.out.c1; have d9 := HF9.out.f1
                  clear a8 b8 d8
                  by_cases hbig : 255 < longN nb + Z
                  · have hbg : decide (255 < longN nb + Z) = true := dec_true hbig
                    have HMK : Hid (renameN M old s = (36, M)) := Lib.hid (by rw [HRN.out]; unfold movedN; rw [HNB.out, HZN.out, hdn.out, decide_eq_true hbig]; rfl)
                    go_wp2_with fail
                    obtain ⟨r1, r2, r3⟩ := HF9.out.ret HR9.out
                    refine bodyPost_ret (results_row_tmp rfl _ _ (w.heap.size + 1) _ _ _ _ rfl r1 Tryz.underlying30 rfl (by kernel_rfl)) rfl ?_
                    rw [HMK.out]
                    exact ⟨_, rfl, r2, r3⟩
                  · have hbg : decide (255 < longN nb + Z) = false := dec_false hbig
                    have hbg2 : longN nb + Z ≤ 255 := by omega
                    obtain ⟨fo, hlf, hef⟩ := look_par HL1.out HLO.out
                    obtain ⟨hGd, hf1, hf2, hf3, hf4, hf5, -, -⟩ := (HOK.out fo hlf hef).facts HG.out
                    have HMK : Hid (renameN M old s = (0, moveM M fo (parL old) p (parL s) i)) := Lib.hid (by rw [HRN.out]; unfold movedN; rw [HNB.out, HZN.out, hdn.out, decide_eq_false hbig]; rw [if_neg (by decide), hf1])
                    have HPZ := Lib.hid (place_zero HL1.out hf1 (ent_dir hf2))
                    have HGD := Lib.hid hGd; have HF1 := Lib.hid hf1; have HF2 := Lib.hid hf2; have HF4 := Lib.hid hf4; have HF5 := Lib.hid hf5
                    clear hlf hef hGd hf1 hf2 hf3 hf4 hf5 hbig
                    have HPL := Lib.hid (refPlace_any HR9.out HGD.out.1.ok old ho)
                    unfold treeV PlacePost at HPL
                    rw [HPZ.out] at HPL
                    go_wp2_with fail
                    clear a9 b9 d9
                    refine HPL.out.mono ?_
                    rintro e wp ⟨pf, lf, of2, rfl, hpf, hbp⟩
                    obtain ⟨hl7, -, -, -⟩ := hpf (by simp)
                    have hpfo : pf = fo := by rw [HF1.out] at hl7; injection hl7 with hl7; exact hl7.symm
                    subst hpfo
                    have HFp := Lib.hid (HF9.out.below hbp)
                    have HRp := Lib.hid (HR9.out.below hbp)
                    have ap := HFp.out.c0; have bp := HFp.out.c1; have dp := HFp.out.f1
                    clear hpf hbp hl7 HPL
                    obtain ⟨ndf, ff, hmf, -⟩ := isDir_there (ent_dir HF2.out)
                    have hfc := (HGD.out.1.ok.low pf ndf hmf).2
                    have HCU := Lib.hid (cut_any HRp.out hfc (parL old))
                    unfold treeV at HCU
                    clear hmf
                    go_wp2_with fail
                    refine HCU.out.mono ?_
                    rintro e wq ⟨vq, rfl, hrq, hbq⟩
                    have HFq := Lib.hid (HFp.out.below hbq)
                    have hrq' := hrq.next HFp.out
                    have HPU := Lib.hid (put_any hrq' HPC.out (parL s) i (by
                      unfold setK
                      by_cases e : p = pf
                      · rw [if_pos e]
                        show updE _ _ _ _ = none
                        unfold updE
                        by_cases e2 : parL s = parL old
                        · rw [if_pos e2]
                        · rw [if_neg e2, refM_en, ← e]; exact HF5.out
                      · rw [if_neg e, refM_en]; exact HF5.out) (fun L hL => by
                      by_cases e : p = pf
                      · subst e
                        have hK : setK (refM M) p ⟨(refM M p).kd, (refM M p).dt, updE (refM M p).en (parL old) none⟩ p = ⟨(refM M p).kd, (refM M p).dt, updE (refM M p).en (parL old) none⟩ := if_pos rfl
                        rw [hK] at hL
                        have := few_cut HGD.out.1 hcap hL
                        omega
                      · have hK : setK (refM M) pf ⟨(refM M pf).kd, (refM M pf).dt, updE (refM M pf).en (parL old) none⟩ p = refM M p := if_neg e
                        rw [hK] at hL
                        have := few_names HGD.out.1 hcap hL
                        omega))
                    unfold treeV at HPU
                    obtain ⟨-, gq, cq, rfl, -⟩ := id hrq
                    clear hrq hbq hrq' HCU ap bp dp
                    go_wp2_with fail
                    refine HPU.out.mono ?_
                    rintro e wz ⟨vz, rfl, hrz, hbz⟩
                    obtain ⟨-, gz, cz, rfl, -⟩ := id hrz
                    have HFz := Lib.hid (HFq.out.below hbz)
                    have HRz := Lib.hid (hrz.next HFq.out)
                    have az := HFz.out.c0; have bz := HFz.out.c1; have dz := HFz.out.f1
                    clear hrz hbz HPU
                    go_wp2_with fail
                    obtain ⟨r1, r2, r3⟩ := HFz.out.ret HRz.out
                    refine bodyPost_ret (results_row_tmp rfl _ _ (w.heap.size + 1) _ _ _ _ rfl r1 Tryz.underlying30 rfl (by kernel_rfl)) rfl ?_
                    rw [HMK.out]
                    rw [refM_move (ent_dir HF2.out) HF4.out] at r2
                    exact ⟨_, rfl, r2, r3⟩
                | some j =>
                  obtain ⟨ndj, hmj⟩ := Option.isSome_iff_exists.1 (HG.out.1.ok.ent p (parL s) j hen)
                  have hj2 := (HG.out.1.ok.low j ndj hmj).1
                  have hjc := (HG.out.1.ok.low j ndj hmj).2
                  have hjz : ((j : Int) != 0) = true := by simp; omega
                  have hen2 : entI (refM M p).en (parL s) = j := by unfold entI; rw [refM_en, hen]; rfl
                  rw [hen2] at HE
                  have HEN := Lib.hid hen; have HMJ := Lib.hid hmj
                  clear hen hen2 hmj
                  go_wp2_with fail
                  refine (HE.out).mono ?_
                  rintro e w8 ⟨rfl, hb8⟩
                  have HF8 := Lib.hid (HF7.out.below hb8)
                  have HR8 := Lib.hid (HR7.out.below hb8)
                  have a8 := HF8.out.c0; have b8 := HF8.out.c1; have d8 := HF8.out.f1
                  have HB8 := Lib.hid hb8
                  clear hb8 a7 b7 d7
                  by_cases hji : j = i
                  · subst hji
                    have hne : ((j : Int) == (j : Int)) = true := by simp
                    have HMK : Hid (renameN M old s = (0, M)) := Lib.hid (by unfold renameN; rw [if_neg (by rw [HL1.out]; decide), if_neg (by rw [HL2.out]; decide), HLO.out]; dsimp only; rw [if_neg (by rw [HZ.out]; decide), HL.out]; dsimp only; rw [HNA.out, HPF.out, Bool.and_false, if_neg (by decide), hdn.out]; rw [if_neg (by simp)]; rw [HEN.out]; dsimp only; rw [if_pos rfl])
                    clear hjz
                    go_wp2_with fail
                    obtain ⟨r1, r2, r3⟩ := HF8.out.ret HR8.out
                    refine bodyPost_ret (results_row_tmp rfl _ _ (w.heap.size + 1) _ _ _ _ rfl r1 Tryz.underlying30 rfl (by kernel_rfl)) rfl ?_
                    rw [HMK.out]
                    exact ⟨_, rfl, r2, r3⟩
                  · have hne : ((j : Int) == (i : Int)) = false := by simp; omega
                    have HJI := Lib.hid hji
                    clear hji
                    obtain ⟨-, g', c', hv', -, hg', hkd'⟩ := HR8.out
                    obtain ⟨hv1, -, -⟩ := Value.slice.inj hv'
                    have hgg : g = g' := by injection hv1 with hv1; injection hv1
                    subst hgg
                    obtain ⟨ev, q0, -, q2, L, hEL, -, ea, ec, rfl, -⟩ := hkd' j hjc
                    have hlen := ent_len hEL
                    have j0 : (0 : Int) ≤ (j : Int) := by omega
                    have j1 : (j : Int) < (cap : Int) := by omega
                    clear hv' hv1 hg' hkd' hEL
                    cases hdj : isDir M j with
                    | true =>
                      rw [refM_dir hdj] at q0
                      cases hh : hasN M j with
                      | true =>
                        have hgt : decide (0 < ((L.length : Nat) : Int)) = true := dec_true (by rw [hh] at hlen; have := of_decide_eq_true hlen.symm; omega)
                        have hg2 : 0 < L.length := of_decide_eq_true (by rw [← hlen, hh])
                        have hg3 : ¬ L = [] := fun e => by rw [e] at hg2; simp at hg2
                        have hg4 : (0 : Int) < ((L.length : Nat) : Int) := by omega
                        have HMK : Hid (renameN M old s = (39, M)) := Lib.hid (by unfold renameN; rw [if_neg (by rw [HL1.out]; decide), if_neg (by rw [HL2.out]; decide), HLO.out]; dsimp only; rw [if_neg (by rw [HZ.out]; decide), HL.out]; dsimp only; rw [HNA.out, HPF.out, Bool.and_false, if_neg (by decide), hdn.out]; rw [if_neg (by simp)]; rw [HEN.out]; dsimp only; rw [if_neg HJI.out]; rw [if_pos (by rw [show wrongN M j true = 39 by unfold wrongN; rw [if_pos rfl, if_pos hdj, hh]; rfl]; decide), show wrongN M j true = 39 by unfold wrongN; rw [if_pos rfl, if_pos hdj, hh]; rfl])
                        clear hdj hh hlen
                        go_wp2_with fail
                        obtain ⟨r1, r2, r3⟩ := HF8.out.ret HR8.out
                        refine bodyPost_ret (results_row_tmp rfl _ _ (w.heap.size + 1) _ _ _ _ rfl r1 Tryz.underlying30 rfl (by kernel_rfl)) rfl ?_
                        rw [HMK.out]
                        exact ⟨_, rfl, r2, r3⟩
                      | false =>
                        have hlx : L.length = 0 := by rw [hh] at hlen; have := of_decide_eq_false hlen.symm; omega
                        have hlz : ((L.length : Nat) : Int) = 0 := by omega
                        have hgt : decide (0 < ((L.length : Nat) : Int)) = false := dec_false (by omega)
                        have HNO := Lib.hid (wrong_none (M := M) (i := j) (dir := true) (by unfold wrongN; rw [if_pos rfl, if_pos hdj, hh]; rfl))
                        have HRN : Hid (renameN M old s = movedN M (dropT M p (parL s) j) old s p i) := Lib.hid (by unfold renameN; rw [if_neg (by rw [HL1.out]; decide), if_neg (by rw [HL2.out]; decide), HLO.out]; dsimp only; rw [if_neg (by rw [HZ.out]; decide), HL.out]; dsimp only; rw [HNA.out, HPF.out, Bool.and_false, if_neg (by decide), hdn.out]; rw [if_neg (by simp)]; rw [HEN.out]; dsimp only; rw [if_neg HJI.out]; rw [if_neg (by rw [show wrongN M j true = 0 by unfold wrongN; rw [if_pos rfl, if_pos hdj, hh]; rfl]; decide)])
                        have HOK : Hid (∀ f, leadN M 2 (parN old) = .inl f → entN M f (parL old) = some i → MvOk M (dropT M p (parL s) j) old s p i f) := Lib.hid fun f h3 h4 => ⟨h3, h4, HL.out, HPD.out, by first | (rw [HNA.out, HPF.out, Bool.and_false]) | (rw [hdn.out, Bool.false_and]), .inr ⟨j, HEN.out, HJI.out, HNO.out, rfl⟩⟩
                        clear hdj hlen hh
                        go_wp2_with fail
                        obtain ⟨lp, hlp⟩ := HG.out.1.reach i (by rw [HM.out]; rfl)
                        have HDP := Lib.hid (fun wx hb => refDeep_any HG.out.1 HG.out.2 256 lp i wx hlp (by omega) (HR8.out.below hb))
                        obtain ⟨Z, hZ⟩ := deep_exists HG.out.2 hlp
                        obtain ⟨z1, z2⟩ := hZ.bd HG.out.2 hlp
                        have hZN := deepN_of hZ
                        have HZN := Lib.hid hZN
                        rw [hZN] at HDP
                        unfold treeV at HDP
                        obtain ⟨l1, l2⟩ := HLB.out
                        have hwz : IntKind.i64.wrap (longN nb + Z) = longN nb + Z := IntWalk.i64_in _ (by omega)
                        obtain ⟨T, f, hT, hF, hG2⟩ := below_class w8.heap.size w8
                        have t0 : ∀ t, (f t).cell? ⟨w.heap.size, 0, none⟩ = some (.slice (some ⟨g, 0, none⟩) cap c) := fun t => (HF8.out.below (hF t)).c0
                        have HLT : Hid (∀ t, Calls Tryz.prog 53 #[.slice a4 nb.length c4] (f t) fun e w' => e = .returned (.int .i64 (longN nb)) ∧ w' = f t) := Lib.hid fun t => refLong_any ((HST4b.out.below HB8.out).below ((hF t).mono HB8.out.size)) hlb HSZ.out
                        have HDT : Hid (∀ t, Calls Tryz.prog 59 #[.agg #[.slice (some ⟨g, 0, none⟩) cap c], .int .i64 i] (f t) fun e w' => e = .returned (.int .i64 Z) ∧ Below (f t).heap.size (f t) w') := Lib.hid fun t => HDP.out _ (hF t)
                        have HF := Lib.hid hF; have HG2 := Lib.hid hG2
                        have C0 := hG2 _ (below_drewN (Below.refl _ w8) 1)
                        clear hF hG2 hZ hZN HDP hlp lp
                        refine wp_region_class (C := fun w' => ∃ t, w' = f t) (by kernel_rfl) (by kernel_rfl) C0 ?_
                        repeat (first
                          | (go_big_quiet_step ((go_at_call 59; exact (HDT.out _).mono fun e w'' ⟨he, hb⟩ => ⟨he, HG2.out _ (below_call (HF.out _) hb (Nat.le_refl _))⟩)))
                          | (go_big_quiet_step ((go_at_call 53; exact (HLT.out _).mono fun e w'' ⟨he, hb⟩ => ⟨he, ⟨_, hb⟩⟩))))
                        refine wpQuiet_nil ?_
                        rintro w9 ⟨t, rfl⟩
                        have HB9 := Lib.hid (HF.out t)
                        clear t0 HLT HDT C0 HF HG2
                        generalize f t = w9 at HB9 ⊢
                        clear t hT f T
                        have HF9 := Lib.hid (HF8.out.below HB9.out)
                        have HR9 := Lib.hid (HR8.out.below HB9.out)
                        have a9 := HF9.out.c0; have b9 := HF9.out.c1; have d9 := HF9.out.f1
                        clear a8 b8 d8
                        clear q0 q2 hlz hgt
                        by_cases hbig : 255 < longN nb + Z
                        · have hbg : decide (255 < longN nb + Z) = true := dec_true hbig
                          have HMK : Hid (renameN M old s = (36, M)) := Lib.hid (by rw [HRN.out]; unfold movedN; rw [HNB.out, HZN.out, hdn.out, decide_eq_true hbig]; rfl)
                          go_wp2_with fail
                          obtain ⟨r1, r2, r3⟩ := HF9.out.ret HR9.out
                          refine bodyPost_ret (results_row_tmp rfl _ _ (w.heap.size + 1) _ _ _ _ rfl r1 Tryz.underlying30 rfl (by kernel_rfl)) rfl ?_
                          rw [HMK.out]
                          exact ⟨_, rfl, r2, r3⟩
                        · have hbg : decide (255 < longN nb + Z) = false := dec_false hbig
                          have hbg2 : longN nb + Z ≤ 255 := by omega
                          obtain ⟨fo, hlf, hef⟩ := look_par HL1.out HLO.out
                          obtain ⟨hGd, hf1, hf2, hf3, hf4, hf5, -, -⟩ := (HOK.out fo hlf hef).facts HG.out
                          have HMK : Hid (renameN M old s = (0, moveM (dropT M p (parL s) j) fo (parL old) p (parL s) i)) := Lib.hid (by rw [HRN.out]; unfold movedN; rw [HNB.out, HZN.out, hdn.out, decide_eq_false hbig]; rw [if_neg (by decide), hf1])
                          have HPZ := Lib.hid (place_zero HL1.out hf1 (ent_dir hf2))
                          have HGD := Lib.hid hGd; have HF1 := Lib.hid hf1; have HF2 := Lib.hid hf2; have HF4 := Lib.hid hf4; have HF5 := Lib.hid hf5
                          clear hlf hef hGd hf1 hf2 hf3 hf4 hf5 hbig
                          have HDR := Lib.hid (refDrop_any HR9.out HG.out.1 HEN.out HNO.out)
                          unfold treeV at HDR
                          go_wp2_with fail
                          refine HDR.out.mono ?_
                          rintro e w10 ⟨v7, rfl, hr7, hb7⟩
                          obtain ⟨-, g7, c7, rfl, -⟩ := id hr7
                          have hF7 := HF9.out.below hb7
                          have HF10s := Lib.hid (hF7.set (.slice (some ⟨g7, 0, none⟩) cap c7))
                          have HR10s := Lib.hid ((hr7.next HF9.out).set2 (.slice (some ⟨g7, 0, none⟩) cap c7))
                          have x0 := hF7.c0; have x1 := hF7.f0
                          clear hr7 hb7 hF7 HDR a9 b9 d9
                          have HPL := Lib.hid (refPlace_any HR10s.out HGD.out.1.ok old ho)
                          unfold treeV PlacePost at HPL
                          rw [HPZ.out] at HPL
                          have y0 := HF10s.out.c0
                          go_wp2_with fail
                          generalize w10.setCell ⟨w.heap.size, 0, none⟩ (.slice (some ⟨g7, 0, none⟩) cap c7) = w10s at *
                          clear x0 x1 y0
                          refine HPL.out.mono ?_
                          rintro e wp ⟨pf, lf, of2, rfl, hpf, hbp⟩
                          obtain ⟨hl7, -, -, -⟩ := hpf (by simp)
                          have hpfo : pf = fo := by rw [HF1.out] at hl7; injection hl7 with hl7; exact hl7.symm
                          subst hpfo
                          have HFp := Lib.hid (HF10s.out.below hbp)
                          have HRp := Lib.hid (HR10s.out.below hbp)
                          have ap := HFp.out.c0; have bp := HFp.out.c1; have dp := HFp.out.f1
                          clear hpf hbp hl7 HPL
                          obtain ⟨ndf, ff, hmf, -⟩ := isDir_there (ent_dir HF2.out)
                          have hfc := (HGD.out.1.ok.low pf ndf hmf).2
                          have HCU := Lib.hid (cut_any HRp.out hfc (parL old))
                          unfold treeV at HCU
                          clear hmf
                          go_wp2_with fail
                          refine HCU.out.mono ?_
                          rintro e wq ⟨vq, rfl, hrq, hbq⟩
                          have HFq := Lib.hid (HFp.out.below hbq)
                          have hrq' := hrq.next HFp.out
                          have HPU := Lib.hid (put_any hrq' HPC.out (parL s) i (by
                            unfold setK
                            by_cases e : p = pf
                            · rw [if_pos e]
                              show updE _ _ _ _ = none
                              unfold updE
                              by_cases e2 : parL s = parL old
                              · rw [if_pos e2]
                              · rw [if_neg e2, refM_en, ← e]; exact HF5.out
                            · rw [if_neg e, refM_en]; exact HF5.out) (fun L hL => by
                            by_cases e : p = pf
                            · subst e
                              have hK : setK (refM (dropT M p (parL s) j)) p ⟨(refM (dropT M p (parL s) j) p).kd, (refM (dropT M p (parL s) j) p).dt, updE (refM (dropT M p (parL s) j) p).en (parL old) none⟩ p = ⟨(refM (dropT M p (parL s) j) p).kd, (refM (dropT M p (parL s) j) p).dt, updE (refM (dropT M p (parL s) j) p).en (parL old) none⟩ := if_pos rfl
                              rw [hK] at hL
                              have := few_cut HGD.out.1 hcap hL
                              omega
                            · have hK : setK (refM (dropT M p (parL s) j)) pf ⟨(refM (dropT M p (parL s) j) pf).kd, (refM (dropT M p (parL s) j) pf).dt, updE (refM (dropT M p (parL s) j) pf).en (parL old) none⟩ p = refM (dropT M p (parL s) j) p := if_neg e
                              rw [hK] at hL
                              have := few_names HGD.out.1 hcap hL
                              omega))
                          unfold treeV at HPU
                          obtain ⟨-, gq, cq, rfl, -⟩ := id hrq
                          clear hrq hbq hrq' HCU ap bp dp
                          go_wp2_with fail
                          refine HPU.out.mono ?_
                          rintro e wz ⟨vz, rfl, hrz, hbz⟩
                          obtain ⟨-, gz, cz, rfl, -⟩ := id hrz
                          have HFz := Lib.hid (HFq.out.below hbz)
                          have HRz := Lib.hid (hrz.next HFq.out)
                          have az := HFz.out.c0; have bz := HFz.out.c1; have dz := HFz.out.f1
                          clear hrz hbz HPU
                          go_wp2_with fail
                          obtain ⟨r1, r2, r3⟩ := HFz.out.ret HRz.out
                          refine bodyPost_ret (results_row_tmp rfl _ _ (w.heap.size + 1) _ _ _ _ rfl r1 Tryz.underlying30 rfl (by kernel_rfl)) rfl ?_
                          rw [HMK.out]
                          rw [refM_move (ent_dir HF2.out) HF4.out] at r2
                          exact ⟨_, rfl, r2, r3⟩
                    | false =>
                      rw [refM_one HMJ.out hdj] at q0
                      have HMK : Hid (renameN M old s = (20, M)) := Lib.hid (by unfold renameN; rw [if_neg (by rw [HL1.out]; decide), if_neg (by rw [HL2.out]; decide), HLO.out]; dsimp only; rw [if_neg (by rw [HZ.out]; decide), HL.out]; dsimp only; rw [HNA.out, HPF.out, Bool.and_false, if_neg (by decide), hdn.out]; rw [if_neg (by simp)]; rw [HEN.out]; dsimp only; rw [if_neg HJI.out]; rw [if_pos (by rw [show wrongN M j true = 20 by unfold wrongN; rw [if_pos rfl, hdj]; rfl]; decide), show wrongN M j true = 20 by unfold wrongN; rw [if_pos rfl, hdj]; rfl])
                      clear hdj hlen
                      go_wp2_with fail
                      obtain ⟨r1, r2, r3⟩ := HF8.out.ret HR8.out
                      refine bodyPost_ret (results_row_tmp rfl _ _ (w.heap.size + 1) _ _ _ _ rfl r1 Tryz.underlying30 rfl (by kernel_rfl)) rfl ?_
                      rw [HMK.out]
                      exact ⟨_, rfl, r2, r3⟩
          · have hcl : decide ((na.length : Int) < (nb.length : Int)) = false := dec_false (by omega)
            have hcl2 : (nb.length : Int) ≤ (na.length : Int) := by omega
            have HPF : Hid (isPre na (parN s) = false) := Lib.hid (by rw [HPR.out, decide_eq_false hlen, Bool.false_and])
            clear hlen
            have HST4b := HST4
            clear HST3b HST4
            cases sds
            all_goals
              have HE := Lib.hid (entry_any HR6.out HPC.out (parL s))
              cases hen : entN M p (parL s) with
              | none =>
                have hen2 : entI (refM M p).en (parL s) = 0 := by unfold entI; rw [refM_en, hen]; rfl
                rw [hen2] at HE
                have hne : ((0 : Int) == (i : Int)) = false := by have := HI2.out; simp; omega
                have HEN := Lib.hid hen
                clear hen hen2
                go_wp2_with fail
                refine (HE.out).mono ?_
                rintro e w7 ⟨rfl, hb7⟩
                have HF7 := Lib.hid (HF6.out.below hb7)
                have HR7 := Lib.hid (HR6.out.below hb7)
                have a7 := HF7.out.c0; have b7 := HF7.out.c1; have d7 := HF7.out.f1
                have HB7 := Lib.hid hb7
                clear hb7 a6 b6 d6
                clear k0 hcl hcl2
                have HRN : Hid (renameN M old s = movedN M M old s p i) := Lib.hid (by unfold renameN; rw [if_neg (by rw [HL1.out]; decide), if_neg (by rw [HL2.out]; decide), HLO.out]; dsimp only; rw [if_neg (by rw [HZ.out]; decide), HL.out]; dsimp only; rw [HNA.out, HPF.out, Bool.and_false, if_neg (by decide), hdn.out]; rw [if_neg (by simp)]; rw [HEN.out])
                have HOK : Hid (∀ f, leadN M 2 (parN old) = .inl f → entN M f (parL old) = some i → MvOk M M old s p i f) := Lib.hid fun f h3 h4 => ⟨h3, h4, HL.out, HPD.out, by first | (rw [HNA.out, HPF.out, Bool.and_false]) | (rw [hdn.out, Bool.false_and]), .inl ⟨HEN.out, rfl⟩⟩
                go_wp2_with fail
                obtain ⟨lp, hlp⟩ := HG.out.1.reach i (by rw [HM.out]; rfl)
                have HDP := Lib.hid (fun wx hb => refDeep_any HG.out.1 HG.out.2 256 lp i wx hlp (by omega) (HR7.out.below hb))
                obtain ⟨Z, hZ⟩ := deep_exists HG.out.2 hlp
                obtain ⟨z1, z2⟩ := hZ.bd HG.out.2 hlp
                have hZN := deepN_of hZ
                have HZN := Lib.hid hZN
                rw [hZN] at HDP
                unfold treeV at HDP
                obtain ⟨l1, l2⟩ := HLB.out
                have hwz : IntKind.i64.wrap (longN nb + Z) = longN nb + Z := IntWalk.i64_in _ (by omega)
                obtain ⟨T, f, hT, hF, hG2⟩ := below_class w7.heap.size w7
                have t0 : ∀ t, (f t).cell? ⟨w.heap.size, 0, none⟩ = some (.slice (some ⟨g, 0, none⟩) cap c) := fun t => (HF7.out.below (hF t)).c0
                have HLT : Hid (∀ t, Calls Tryz.prog 53 #[.slice a4 nb.length c4] (f t) fun e w' => e = .returned (.int .i64 (longN nb)) ∧ w' = f t) := Lib.hid fun t => refLong_any ((HST4b.out.below HB7.out).below ((hF t).mono HB7.out.size)) hlb HSZ.out
                have HDT : Hid (∀ t, Calls Tryz.prog 59 #[.agg #[.slice (some ⟨g, 0, none⟩) cap c], .int .i64 i] (f t) fun e w' => e = .returned (.int .i64 Z) ∧ Below (f t).heap.size (f t) w') := Lib.hid fun t => HDP.out _ (hF t)
                have HF := Lib.hid hF; have HG2 := Lib.hid hG2
                have C0 := hG2 _ (below_drewN (Below.refl _ w7) 1)
                clear hF hG2 hZ hZN HDP hlp lp
                refine wp_region_class (C := fun w' => ∃ t, w' = f t) (by kernel_rfl) (by kernel_rfl) C0 ?_
                repeat (first
                  | (go_big_quiet_step ((go_at_call 59; exact (HDT.out _).mono fun e w'' ⟨he, hb⟩ => ⟨he, HG2.out _ (below_call (HF.out _) hb (Nat.le_refl _))⟩)))
                  | (go_big_quiet_step ((go_at_call 53; exact (HLT.out _).mono fun e w'' ⟨he, hb⟩ => ⟨he, ⟨_, hb⟩⟩))))
                refine wpQuiet_nil ?_
                rintro w8 ⟨t, rfl⟩
                have HB8 := Lib.hid (HF.out t)
                clear t0 HLT HDT C0 HF HG2
                generalize f t = w8 at HB8 ⊢
                clear t hT f T
                have HF8 := Lib.hid (HF7.out.below HB8.out)
                have HR8 := Lib.hid (HR7.out.below HB8.out)
                have a8 := HF8.out.c0; have b8 := HF8.out.c1; have d8 := HF8.out.f1
                clear a7 b7 d7
                by_cases hbig : 255 < longN nb + Z
                · have hbg : decide (255 < longN nb + Z) = true := dec_true hbig
                  have HMK : Hid (renameN M old s = (36, M)) := Lib.hid (by rw [HRN.out]; unfold movedN; rw [HNB.out, HZN.out, hdn.out, decide_eq_true hbig]; rfl)
                  go_wp2_with fail
                  obtain ⟨r1, r2, r3⟩ := HF8.out.ret HR8.out
                  refine bodyPost_ret (results_row_tmp rfl _ _ (w.heap.size + 1) _ _ _ _ rfl r1 Tryz.underlying30 rfl (by kernel_rfl)) rfl ?_
                  rw [HMK.out]
                  exact ⟨_, rfl, r2, r3⟩
                · have hbg : decide (255 < longN nb + Z) = false := dec_false hbig
                  have hbg2 : longN nb + Z ≤ 255 := by omega
                  obtain ⟨fo, hlf, hef⟩ := look_par HL1.out HLO.out
                  obtain ⟨hGd, hf1, hf2, hf3, hf4, hf5, -, -⟩ := (HOK.out fo hlf hef).facts HG.out
                  have HMK : Hid (renameN M old s = (0, moveM M fo (parL old) p (parL s) i)) := Lib.hid (by rw [HRN.out]; unfold movedN; rw [HNB.out, HZN.out, hdn.out, decide_eq_false hbig]; rw [if_neg (by decide), hf1])
                  have HPZ := Lib.hid (place_zero HL1.out hf1 (ent_dir hf2))
                  have HGD := Lib.hid hGd; have HF1 := Lib.hid hf1; have HF2 := Lib.hid hf2; have HF4 := Lib.hid hf4; have HF5 := Lib.hid hf5
                  clear hlf hef hGd hf1 hf2 hf3 hf4 hf5 hbig
                  have HPL := Lib.hid (refPlace_any HR8.out HGD.out.1.ok old ho)
                  unfold treeV PlacePost at HPL
                  rw [HPZ.out] at HPL
                  go_wp2_with fail
                  clear a8 b8 d8
                  refine HPL.out.mono ?_
                  rintro e wp ⟨pf, lf, of2, rfl, hpf, hbp⟩
                  obtain ⟨hl7, -, -, -⟩ := hpf (by simp)
                  have hpfo : pf = fo := by rw [HF1.out] at hl7; injection hl7 with hl7; exact hl7.symm
                  subst hpfo
                  have HFp := Lib.hid (HF8.out.below hbp)
                  have HRp := Lib.hid (HR8.out.below hbp)
                  have ap := HFp.out.c0; have bp := HFp.out.c1; have dp := HFp.out.f1
                  clear hpf hbp hl7 HPL
                  obtain ⟨ndf, ff, hmf, -⟩ := isDir_there (ent_dir HF2.out)
                  have hfc := (HGD.out.1.ok.low pf ndf hmf).2
                  have HCU := Lib.hid (cut_any HRp.out hfc (parL old))
                  unfold treeV at HCU
                  clear hmf
                  go_wp2_with fail
                  refine HCU.out.mono ?_
                  rintro e wq ⟨vq, rfl, hrq, hbq⟩
                  have HFq := Lib.hid (HFp.out.below hbq)
                  have hrq' := hrq.next HFp.out
                  have HPU := Lib.hid (put_any hrq' HPC.out (parL s) i (by
                    unfold setK
                    by_cases e : p = pf
                    · rw [if_pos e]
                      show updE _ _ _ _ = none
                      unfold updE
                      by_cases e2 : parL s = parL old
                      · rw [if_pos e2]
                      · rw [if_neg e2, refM_en, ← e]; exact HF5.out
                    · rw [if_neg e, refM_en]; exact HF5.out) (fun L hL => by
                    by_cases e : p = pf
                    · subst e
                      have hK : setK (refM M) p ⟨(refM M p).kd, (refM M p).dt, updE (refM M p).en (parL old) none⟩ p = ⟨(refM M p).kd, (refM M p).dt, updE (refM M p).en (parL old) none⟩ := if_pos rfl
                      rw [hK] at hL
                      have := few_cut HGD.out.1 hcap hL
                      omega
                    · have hK : setK (refM M) pf ⟨(refM M pf).kd, (refM M pf).dt, updE (refM M pf).en (parL old) none⟩ p = refM M p := if_neg e
                      rw [hK] at hL
                      have := few_names HGD.out.1 hcap hL
                      omega))
                  unfold treeV at HPU
                  obtain ⟨-, gq, cq, rfl, -⟩ := id hrq
                  clear hrq hbq hrq' HCU ap bp dp
                  go_wp2_with fail
                  refine HPU.out.mono ?_
                  rintro e wz ⟨vz, rfl, hrz, hbz⟩
                  obtain ⟨-, gz, cz, rfl, -⟩ := id hrz
                  have HFz := Lib.hid (HFq.out.below hbz)
                  have HRz := Lib.hid (hrz.next HFq.out)
                  have az := HFz.out.c0; have bz := HFz.out.c1; have dz := HFz.out.f1
                  clear hrz hbz HPU
                  go_wp2_with fail
                  obtain ⟨r1, r2, r3⟩ := HFz.out.ret HRz.out
                  refine bodyPost_ret (results_row_tmp rfl _ _ (w.heap.size + 1) _ _ _ _ rfl r1 Tryz.underlying30 rfl (by kernel_rfl)) rfl ?_
                  rw [HMK.out]
                  rw [refM_move (ent_dir HF2.out) HF4.out] at r2
                  exact ⟨_, rfl, r2, r3⟩
              | some j =>
                obtain ⟨ndj, hmj⟩ := Option.isSome_iff_exists.1 (HG.out.1.ok.ent p (parL s) j hen)
                have hj2 := (HG.out.1.ok.low j ndj hmj).1
                have hjc := (HG.out.1.ok.low j ndj hmj).2
                have hjz : ((j : Int) != 0) = true := by simp; omega
                have hen2 : entI (refM M p).en (parL s) = j := by unfold entI; rw [refM_en, hen]; rfl
                rw [hen2] at HE
                have HEN := Lib.hid hen; have HMJ := Lib.hid hmj
                clear hen hen2 hmj
                go_wp2_with fail
                refine (HE.out).mono ?_
                rintro e w7 ⟨rfl, hb7⟩
                have HF7 := Lib.hid (HF6.out.below hb7)
                have HR7 := Lib.hid (HR6.out.below hb7)
                have a7 := HF7.out.c0; have b7 := HF7.out.c1; have d7 := HF7.out.f1
                have HB7 := Lib.hid hb7
                clear hb7 a6 b6 d6
                clear k0 hcl hcl2
                by_cases hji : j = i
                · subst hji
                  have hne : ((j : Int) == (j : Int)) = true := by simp
                  have HMK : Hid (renameN M old s = (0, M)) := Lib.hid (by unfold renameN; rw [if_neg (by rw [HL1.out]; decide), if_neg (by rw [HL2.out]; decide), HLO.out]; dsimp only; rw [if_neg (by rw [HZ.out]; decide), HL.out]; dsimp only; rw [HNA.out, HPF.out, Bool.and_false, if_neg (by decide), hdn.out]; rw [if_neg (by simp)]; rw [HEN.out]; dsimp only; rw [if_pos rfl])
                  clear hjz
                  go_wp2_with fail
                  obtain ⟨r1, r2, r3⟩ := HF7.out.ret HR7.out
                  refine bodyPost_ret (results_row_tmp rfl _ _ (w.heap.size + 1) _ _ _ _ rfl r1 Tryz.underlying30 rfl (by kernel_rfl)) rfl ?_
                  rw [HMK.out]
                  exact ⟨_, rfl, r2, r3⟩
                · have hne : ((j : Int) == (i : Int)) = false := by simp; omega
                  have HJI := Lib.hid hji
                  clear hji
                  obtain ⟨-, g', c', hv', -, hg', hkd'⟩ := HR7.out
                  obtain ⟨hv1, -, -⟩ := Value.slice.inj hv'
                  have hgg : g = g' := by injection hv1 with hv1; injection hv1
                  subst hgg
                  obtain ⟨ev, q0, -, q2, L, hEL, -, ea, ec, rfl, -⟩ := hkd' j hjc
                  have hlen := ent_len hEL
                  have j0 : (0 : Int) ≤ (j : Int) := by omega
                  have j1 : (j : Int) < (cap : Int) := by omega
                  clear hv' hv1 hg' hkd' hEL
                  cases hdj : isDir M j with
                  | true =>
                    rw [refM_dir hdj] at q0
                    cases hh : hasN M j with
                    | true =>
                      have hgt : decide (0 < ((L.length : Nat) : Int)) = true := dec_true (by rw [hh] at hlen; have := of_decide_eq_true hlen.symm; omega)
                      have hg2 : 0 < L.length := of_decide_eq_true (by rw [← hlen, hh])
                      have hg3 : ¬ L = [] := fun e => by rw [e] at hg2; simp at hg2
                      have hg4 : (0 : Int) < ((L.length : Nat) : Int) := by omega
                      have HMK : Hid (renameN M old s = (39, M)) := Lib.hid (by unfold renameN; rw [if_neg (by rw [HL1.out]; decide), if_neg (by rw [HL2.out]; decide), HLO.out]; dsimp only; rw [if_neg (by rw [HZ.out]; decide), HL.out]; dsimp only; rw [HNA.out, HPF.out, Bool.and_false, if_neg (by decide), hdn.out]; rw [if_neg (by simp)]; rw [HEN.out]; dsimp only; rw [if_neg HJI.out]; rw [if_pos (by rw [show wrongN M j true = 39 by unfold wrongN; rw [if_pos rfl, if_pos hdj, hh]; rfl]; decide), show wrongN M j true = 39 by unfold wrongN; rw [if_pos rfl, if_pos hdj, hh]; rfl])
                      clear hdj hh hlen
                      go_wp2_with fail
                      obtain ⟨r1, r2, r3⟩ := HF7.out.ret HR7.out
                      refine bodyPost_ret (results_row_tmp rfl _ _ (w.heap.size + 1) _ _ _ _ rfl r1 Tryz.underlying30 rfl (by kernel_rfl)) rfl ?_
                      rw [HMK.out]
                      exact ⟨_, rfl, r2, r3⟩
                    | false =>
                      have hlx : L.length = 0 := by rw [hh] at hlen; have := of_decide_eq_false hlen.symm; omega
                      have hlz : ((L.length : Nat) : Int) = 0 := by omega
                      have hgt : decide (0 < ((L.length : Nat) : Int)) = false := dec_false (by omega)
                      have HNO := Lib.hid (wrong_none (M := M) (i := j) (dir := true) (by unfold wrongN; rw [if_pos rfl, if_pos hdj, hh]; rfl))
                      have HRN : Hid (renameN M old s = movedN M (dropT M p (parL s) j) old s p i) := Lib.hid (by unfold renameN; rw [if_neg (by rw [HL1.out]; decide), if_neg (by rw [HL2.out]; decide), HLO.out]; dsimp only; rw [if_neg (by rw [HZ.out]; decide), HL.out]; dsimp only; rw [HNA.out, HPF.out, Bool.and_false, if_neg (by decide), hdn.out]; rw [if_neg (by simp)]; rw [HEN.out]; dsimp only; rw [if_neg HJI.out]; rw [if_neg (by rw [show wrongN M j true = 0 by unfold wrongN; rw [if_pos rfl, if_pos hdj, hh]; rfl]; decide)])
                      have HOK : Hid (∀ f, leadN M 2 (parN old) = .inl f → entN M f (parL old) = some i → MvOk M (dropT M p (parL s) j) old s p i f) := Lib.hid fun f h3 h4 => ⟨h3, h4, HL.out, HPD.out, by first | (rw [HNA.out, HPF.out, Bool.and_false]) | (rw [hdn.out, Bool.false_and]), .inr ⟨j, HEN.out, HJI.out, HNO.out, rfl⟩⟩
                      clear hdj hlen hh
                      go_wp2_with fail
                      obtain ⟨lp, hlp⟩ := HG.out.1.reach i (by rw [HM.out]; rfl)
                      have HDP := Lib.hid (fun wx hb => refDeep_any HG.out.1 HG.out.2 256 lp i wx hlp (by omega) (HR7.out.below hb))
                      obtain ⟨Z, hZ⟩ := deep_exists HG.out.2 hlp
                      obtain ⟨z1, z2⟩ := hZ.bd HG.out.2 hlp
                      have hZN := deepN_of hZ
                      have HZN := Lib.hid hZN
                      rw [hZN] at HDP
                      unfold treeV at HDP
                      obtain ⟨l1, l2⟩ := HLB.out
                      have hwz : IntKind.i64.wrap (longN nb + Z) = longN nb + Z := IntWalk.i64_in _ (by omega)
                      obtain ⟨T, f, hT, hF, hG2⟩ := below_class w7.heap.size w7
                      have t0 : ∀ t, (f t).cell? ⟨w.heap.size, 0, none⟩ = some (.slice (some ⟨g, 0, none⟩) cap c) := fun t => (HF7.out.below (hF t)).c0
                      have HLT : Hid (∀ t, Calls Tryz.prog 53 #[.slice a4 nb.length c4] (f t) fun e w' => e = .returned (.int .i64 (longN nb)) ∧ w' = f t) := Lib.hid fun t => refLong_any ((HST4b.out.below HB7.out).below ((hF t).mono HB7.out.size)) hlb HSZ.out
                      have HDT : Hid (∀ t, Calls Tryz.prog 59 #[.agg #[.slice (some ⟨g, 0, none⟩) cap c], .int .i64 i] (f t) fun e w' => e = .returned (.int .i64 Z) ∧ Below (f t).heap.size (f t) w') := Lib.hid fun t => HDP.out _ (hF t)
                      have HF := Lib.hid hF; have HG2 := Lib.hid hG2
                      have C0 := hG2 _ (below_drewN (Below.refl _ w7) 1)
                      clear hF hG2 hZ hZN HDP hlp lp
                      refine wp_region_class (C := fun w' => ∃ t, w' = f t) (by kernel_rfl) (by kernel_rfl) C0 ?_
                      repeat (first
                        | (go_big_quiet_step ((go_at_call 59; exact (HDT.out _).mono fun e w'' ⟨he, hb⟩ => ⟨he, HG2.out _ (below_call (HF.out _) hb (Nat.le_refl _))⟩)))
                        | (go_big_quiet_step ((go_at_call 53; exact (HLT.out _).mono fun e w'' ⟨he, hb⟩ => ⟨he, ⟨_, hb⟩⟩))))
                      refine wpQuiet_nil ?_
                      rintro w8 ⟨t, rfl⟩
                      have HB8 := Lib.hid (HF.out t)
                      clear t0 HLT HDT C0 HF HG2
                      generalize f t = w8 at HB8 ⊢
                      clear t hT f T
                      have HF8 := Lib.hid (HF7.out.below HB8.out)
                      have HR8 := Lib.hid (HR7.out.below HB8.out)
                      have a8 := HF8.out.c0; have b8 := HF8.out.c1; have d8 := HF8.out.f1
                      clear a7 b7 d7
                      clear q0 q2 hlz hgt
                      by_cases hbig : 255 < longN nb + Z
                      · have hbg : decide (255 < longN nb + Z) = true := dec_true hbig
                        have HMK : Hid (renameN M old s = (36, M)) := Lib.hid (by rw [HRN.out]; unfold movedN; rw [HNB.out, HZN.out, hdn.out, decide_eq_true hbig]; rfl)
                        go_wp2_with fail
                        obtain ⟨r1, r2, r3⟩ := HF8.out.ret HR8.out
                        refine bodyPost_ret (results_row_tmp rfl _ _ (w.heap.size + 1) _ _ _ _ rfl r1 Tryz.underlying30 rfl (by kernel_rfl)) rfl ?_
                        rw [HMK.out]
                        exact ⟨_, rfl, r2, r3⟩
                      · have hbg : decide (255 < longN nb + Z) = false := dec_false hbig
                        have hbg2 : longN nb + Z ≤ 255 := by omega
                        obtain ⟨fo, hlf, hef⟩ := look_par HL1.out HLO.out
                        obtain ⟨hGd, hf1, hf2, hf3, hf4, hf5, -, -⟩ := (HOK.out fo hlf hef).facts HG.out
                        have HMK : Hid (renameN M old s = (0, moveM (dropT M p (parL s) j) fo (parL old) p (parL s) i)) := Lib.hid (by rw [HRN.out]; unfold movedN; rw [HNB.out, HZN.out, hdn.out, decide_eq_false hbig]; rw [if_neg (by decide), hf1])
                        have HPZ := Lib.hid (place_zero HL1.out hf1 (ent_dir hf2))
                        have HGD := Lib.hid hGd; have HF1 := Lib.hid hf1; have HF2 := Lib.hid hf2; have HF4 := Lib.hid hf4; have HF5 := Lib.hid hf5
                        clear hlf hef hGd hf1 hf2 hf3 hf4 hf5 hbig
                        have HDR := Lib.hid (refDrop_any HR8.out HG.out.1 HEN.out HNO.out)
                        unfold treeV at HDR
                        go_wp2_with fail
                        refine HDR.out.mono ?_
                        rintro e w9 ⟨v7, rfl, hr7, hb7⟩
                        obtain ⟨-, g7, c7, rfl, -⟩ := id hr7
                        have hF7 := HF8.out.below hb7
                        have HF9s := Lib.hid (hF7.set (.slice (some ⟨g7, 0, none⟩) cap c7))
                        have HR9s := Lib.hid ((hr7.next HF8.out).set2 (.slice (some ⟨g7, 0, none⟩) cap c7))
                        have x0 := hF7.c0; have x1 := hF7.f0
                        clear hr7 hb7 hF7 HDR a8 b8 d8
                        have HPL := Lib.hid (refPlace_any HR9s.out HGD.out.1.ok old ho)
                        unfold treeV PlacePost at HPL
                        rw [HPZ.out] at HPL
                        have y0 := HF9s.out.c0
                        go_wp2_with fail
                        generalize w9.setCell ⟨w.heap.size, 0, none⟩ (.slice (some ⟨g7, 0, none⟩) cap c7) = w9s at *
                        clear x0 x1 y0
                        refine HPL.out.mono ?_
                        rintro e wp ⟨pf, lf, of2, rfl, hpf, hbp⟩
                        obtain ⟨hl7, -, -, -⟩ := hpf (by simp)
                        have hpfo : pf = fo := by rw [HF1.out] at hl7; injection hl7 with hl7; exact hl7.symm
                        subst hpfo
                        have HFp := Lib.hid (HF9s.out.below hbp)
                        have HRp := Lib.hid (HR9s.out.below hbp)
                        have ap := HFp.out.c0; have bp := HFp.out.c1; have dp := HFp.out.f1
                        clear hpf hbp hl7 HPL
                        obtain ⟨ndf, ff, hmf, -⟩ := isDir_there (ent_dir HF2.out)
                        have hfc := (HGD.out.1.ok.low pf ndf hmf).2
                        have HCU := Lib.hid (cut_any HRp.out hfc (parL old))
                        unfold treeV at HCU
                        clear hmf
                        go_wp2_with fail
                        refine HCU.out.mono ?_
                        rintro e wq ⟨vq, rfl, hrq, hbq⟩
                        have HFq := Lib.hid (HFp.out.below hbq)
                        have hrq' := hrq.next HFp.out
                        have HPU := Lib.hid (put_any hrq' HPC.out (parL s) i (by
                          unfold setK
                          by_cases e : p = pf
                          · rw [if_pos e]
                            show updE _ _ _ _ = none
                            unfold updE
                            by_cases e2 : parL s = parL old
                            · rw [if_pos e2]
                            · rw [if_neg e2, refM_en, ← e]; exact HF5.out
                          · rw [if_neg e, refM_en]; exact HF5.out) (fun L hL => by
                          by_cases e : p = pf
                          · subst e
                            have hK : setK (refM (dropT M p (parL s) j)) p ⟨(refM (dropT M p (parL s) j) p).kd, (refM (dropT M p (parL s) j) p).dt, updE (refM (dropT M p (parL s) j) p).en (parL old) none⟩ p = ⟨(refM (dropT M p (parL s) j) p).kd, (refM (dropT M p (parL s) j) p).dt, updE (refM (dropT M p (parL s) j) p).en (parL old) none⟩ := if_pos rfl
                            rw [hK] at hL
                            have := few_cut HGD.out.1 hcap hL
                            omega
                          · have hK : setK (refM (dropT M p (parL s) j)) pf ⟨(refM (dropT M p (parL s) j) pf).kd, (refM (dropT M p (parL s) j) pf).dt, updE (refM (dropT M p (parL s) j) pf).en (parL old) none⟩ p = refM (dropT M p (parL s) j) p := if_neg e
                            rw [hK] at hL
                            have := few_names HGD.out.1 hcap hL
                            omega))
                        unfold treeV at HPU
                        obtain ⟨-, gq, cq, rfl, -⟩ := id hrq
                        clear hrq hbq hrq' HCU ap bp dp
                        go_wp2_with fail
                        refine HPU.out.mono ?_
                        rintro e wz ⟨vz, rfl, hrz, hbz⟩
                        obtain ⟨-, gz, cz, rfl, -⟩ := id hrz
                        have HFz := Lib.hid (HFq.out.below hbz)
                        have HRz := Lib.hid (hrz.next HFq.out)
                        have az := HFz.out.c0; have bz := HFz.out.c1; have dz := HFz.out.f1
                        clear hrz hbz HPU
                        go_wp2_with fail
                        obtain ⟨r1, r2, r3⟩ := HFz.out.ret HRz.out
                        refine bodyPost_ret (results_row_tmp rfl _ _ (w.heap.size + 1) _ _ _ _ rfl r1 Tryz.underlying30 rfl (by kernel_rfl)) rfl ?_
                        rw [HMK.out]
                        rw [refM_move (ent_dir HF2.out) HF4.out] at r2
                        exact ⟨_, rfl, r2, r3⟩
                  | false =>
                    rw [refM_one HMJ.out hdj] at q0
                    have HMK : Hid (renameN M old s = (20, M)) := Lib.hid (by unfold renameN; rw [if_neg (by rw [HL1.out]; decide), if_neg (by rw [HL2.out]; decide), HLO.out]; dsimp only; rw [if_neg (by rw [HZ.out]; decide), HL.out]; dsimp only; rw [HNA.out, HPF.out, Bool.and_false, if_neg (by decide), hdn.out]; rw [if_neg (by simp)]; rw [HEN.out]; dsimp only; rw [if_neg HJI.out]; rw [if_pos (by rw [show wrongN M j true = 20 by unfold wrongN; rw [if_pos rfl, hdj]; rfl]; decide), show wrongN M j true = 20 by unfold wrongN; rw [if_pos rfl, hdj]; rfl])
                    clear hdj hlen
                    go_wp2_with fail
                    obtain ⟨r1, r2, r3⟩ := HF7.out.ret HR7.out
                    refine bodyPost_ret (results_row_tmp rfl _ _ (w.heap.size + 1) _ _ _ _ rfl r1 Tryz.underlying30 rfl (by kernel_rfl)) rfl ?_
                    rw [HMK.out]
                    exact ⟨_, rfl, r2, r3⟩
        · have HMK : Hid (renameN M old s = (placeC M s, M)) := Lib.hid (by unfold renameN; rw [if_neg (by rw [HL1.out]; decide), if_neg (by rw [HL2.out]; decide), HLO.out]; dsimp only; rw [if_pos hz])
          have hzz : (placeC M s != 0) = true := by simp [hz]
          clear hpl hz
          generalize placeC M s = pc at *
          go_wp2_with fail
          obtain ⟨r1, r2, r3⟩ := HF4.out.ret HR4.out
          refine bodyPost_ret (results_row_tmp rfl _ _ (w.heap.size + 1) _ _ _ _ rfl r1 Tryz.underlying30 rfl (by kernel_rfl)) rfl ?_
          rw [HMK.out]
          exact ⟨_, rfl, r2, r3⟩
    · have HMK : Hid (renameN M old s = (parE s, M)) := Lib.hid (by unfold renameN; rw [if_neg (by rw [h1]; decide), if_pos h2])
      have hzz : (parE s != 0) = true := by simp [h2]
      clear h1 h2
      generalize parE s = pc at *
      go_wp2_with fail
      obtain ⟨r1, r2, r3⟩ := HF2.out.ret HR2.out
      refine bodyPost_ret (results_row_tmp rfl _ _ (w.heap.size + 1) _ _ _ _ rfl r1 Tryz.underlying30 rfl (by kernel_rfl)) rfl ?_
      rw [HMK.out]
      exact ⟨_, rfl, r2, r3⟩
  · have HMK : Hid (renameN M old s = (parE old, M)) := Lib.hid (by unfold renameN; rw [if_pos h1])
    have hzz : (parE old != 0) = true := by simp [h1]
    clear h1
    generalize parE old = pc at *
    go_wp2_with fail
    obtain ⟨r1, r2, r3⟩ := HF1.out.ret HR1.out
    refine bodyPost_ret (results_row_tmp rfl _ _ (w.heap.size + 1) _ _ _ _ rfl r1 Tryz.underlying30 rfl (by kernel_rfl)) rfl ?_
    rw [HMK.out]
    exact ⟨_, rfl, r2, r3⟩
end
end Go.Proofs.YtoofcnehoffllaaGreat
