/- Walk of the reference's Rename (printed by tools/genref.py). -/
import Derived.Test.YtoofcnehoffllaaGreatR15
namespace Go.Proofs.YtoofcnehoffllaaGreat
open Go.RowKit

section
variable {D : Nat → Prop} {w : World} {v : Value} {cap : Nat} {M : TM}
theorem refM_setE {p : Nat} {s : ByteArray} {o : Option Nat} (hp : isDir M p = true) : setK (refM M) p ⟨(refM M p).kd, (refM M p).dt, updE (refM M p).en s o⟩ = refM (setE M p (updE (entN M p) s o)) := by
  obtain ⟨nd, f, hm, hf⟩ := isDir_there hp
  have he := ent_setE (s := s) (o := o) hp
  have hd : ∀ x, isDir (setE M p (updE (entN M p) s o)) x = isDir M x := fun x => isDir_setE hm hf
  have hs : ∀ x, (setE M p (updE (entN M p) s o) x).isSome = (M x).isSome := fun x => some_setE hm
  funext x
  unfold setK
  by_cases e : x = p
  · subst e
    rw [if_pos rfl]
    refine RN.eq ?_ ?_ fun t => ?_
    · rw [refM_eq (setE M x _), refM_eq M]
      dsimp only
      rw [hd, hs]
    · rw [refM_eq (setE M x _), refM_eq M]
      dsimp only
      rw [setE_same.2]
    · show updE (refM M x).en s o t = (refM (setE M x _) x).en t
      rw [refM_en, he]
      unfold updE putE
      by_cases e2 : t = s
      · rw [if_pos e2, if_pos ⟨rfl, e2⟩]
      · rw [if_neg e2, if_neg (fun h => e2 h.2), refM_en]
  · rw [if_neg e]
    refine (refM_same (hd x) (hs x) setE_same.2 fun t => ?_).symm
    rw [he, putE_other (fun h => e h.1)]
theorem refM_move {f p n : Nat} {last en : ByteArray} (hf : isDir M f = true) (hp : isDir M p = true) :
    setK (setK (refM M) f ⟨(refM M f).kd, (refM M f).dt, updE (refM M f).en last none⟩) p ⟨(setK (refM M) f ⟨(refM M f).kd, (refM M f).dt, updE (refM M f).en last none⟩ p).kd, (setK (refM M) f ⟨(refM M f).kd, (refM M f).dt, updE (refM M f).en last none⟩ p).dt, updE (setK (refM M) f ⟨(refM M f).kd, (refM M f).dt, updE (refM M f).en last none⟩ p).en en (some n)⟩ = refM (moveM M f last p en n) := by
  rw [refM_setE hf]
  obtain ⟨nd, ff, hm, hff⟩ := isDir_there hf
  exact refM_setE (by rw [isDir_setE hm hff]; exact hp)
theorem few_cut (hG : TG M cap) (hc : cap ≤ 201) {p : Nat} {s : ByteArray} {L : List (ByteArray × Nat)} (h : EntL (updE (refM M p).en s none) L) : L.length ≤ 20100 := by
  have h1 := hG.ents_le hc (i := p) (l := L.map fun x => x.1) (entL_nodup h) (fun t ht => by
    obtain ⟨x, hx, rfl⟩ := List.mem_map.1 ht
    have := (h.2 x.1 x.2).1 hx
    unfold updE at this
    split at this
    · cases this
    · rw [refM_en] at this
      rw [this]; rfl)
  rwa [List.length_map] at h1
theorem pre_par {na nb : List ByteArray} {s : ByteArray} (h : parN s ++ [parL s] = nb) : isPre na (parN s) = (decide (na.length < nb.length) && isPre na nb) := by
  subst h
  unfold isPre
  rw [List.length_append, List.length_singleton]
  by_cases hl : na.length < (parN s).length + 1
  · rw [decide_eq_true hl, Bool.true_and, List.take_append_of_le_length (by omega)]
  · rw [decide_eq_false hl, Bool.false_and]
    refine decide_eq_false fun h => hl ?_
    have := congrArg List.length h
    rw [List.length_take] at this
    omega
set_option maxHeartbeats 16000000 in
set_option maxRecDepth 100000 in
theorem refRenameF_any (h : RefIs D w v cap (refM M)) (hG : Good M cap) (old s : ByteArray) (ho : old.size ≤ 1000000) (hs : s.size ≤ 1000000) (hdir : ∀ i, lookN M old = .inl i → isDir M i = false) :
    Calls Tryz.prog 28 #[treeV v, .string old, .string s] w fun e w' => ∃ v', e = .returned (.tuple #[treeV v', .int .i64 (renameN M old s).1]) ∧ RefIs (fun b => D b ∨ w.heap.size ≤ b) w' v' cap (refM (renameN M old s).2) ∧ Below w.heap.size w w' := by
  have hcap := h.1
  obtain ⟨g, c, hvv, hD, hg, hn⟩ := h.at_
  subst hvv
  have HR0 := Lib.hid h.two; have HG := Lib.hid hG
  have HF0 := Lib.hid (FrT.start w (.slice (some ⟨g, 0, none⟩) cap c))
  have HR00 := Lib.hid (h.two.below HF0.out.bel)
  clear h hn hG
  unfold treeV
  go_enter Tryz.func28, Tryz.ntmps28
  generalize hw0 : (w.alloc (.cells #[.slice (some ⟨g, 0, none⟩) cap c] 30 (0, 0))).alloc (.cells #[.slice none 0 0] 30 (0, 0)) = w0 at HF0 HR00
  go_wp2_with fail
  clear hw0 HR0
  have HR0 := HR00
  clear HR00
  refine (refParent_any old ho w0).mono ?_
  rintro e w1 ⟨u1, rfl, hst1, hb1⟩
  have HF1 := Lib.hid (HF0.out.below hb1)
  have HR1 := Lib.hid (HR0.out.below hb1)
  have a1 := HF1.out.c0; have b1 := HF1.out.c1; have d1 := HF1.out.f1
  have HB1 := Lib.hid hb1
  clear hb1
  clear hst1
  by_cases h1 : parE old = 0
  · rw [h1]
    go_wp2_with fail
    refine (refParent_any s hs w1).mono ?_
    rintro e w2 ⟨u2, rfl, hst2, hb2⟩
    have HF2 := Lib.hid (HF1.out.below hb2)
    have HR2 := Lib.hid (HR1.out.below hb2)
    have a2 := HF2.out.c0; have b2 := HF2.out.c1; have d2 := HF2.out.f1
    have HB2 := Lib.hid hb2
    clear hb2 a1 b1 d1
    clear hst2
    by_cases h2 : parE s = 0
    · rw [h2]
      go_wp2_with fail
      refine (refLook_any HR2.out HG.out.1.ok old ho).mono ?_
      rintro e w3 ⟨rfl, hb3⟩
      have HF3 := Lib.hid (HF2.out.below hb3)
      have HR3 := Lib.hid (HR2.out.below hb3)
      have a3 := HF3.out.c0; have b3 := HF3.out.c1; have d3 := HF3.out.f1
      have HB3 := Lib.hid hb3
      clear hb3 a2 b2 d2
      have HL1 := Lib.hid h1; have HL2 := Lib.hid h2
      clear h1 h2
      cases hl : lookN M old with
      | inr q =>
        have hq := look_nz hl
        have HMK : Hid (renameN M old s = (q, M)) := Lib.hid (by unfold renameN; rw [if_neg (by rw [HL1.out]; decide), if_neg (by rw [HL2.out]; decide), hl])
        have hz : (q != 0) = true := by simp [hq]
        unfold ledV
        dsimp only
        clear hl hq
        go_wp2_with fail
        obtain ⟨r1, r2, r3⟩ := HF3.out.ret HR3.out
        refine bodyPost_ret (results_row_tmp rfl _ _ (w.heap.size + 1) _ _ _ _ rfl r1 Tryz.underlying30 rfl (by kernel_rfl)) rfl ?_
        rw [HMK.out]
        exact ⟨_, rfl, r2, r3⟩
      | inl i =>
        have hdi := hdir i hl
        have hdn := Lib.hid hdi
        obtain ⟨nd, hm⟩ := Option.isSome_iff_exists.1 (look_is HG.out.1.ok hl)
        have hic := (HG.out.1.ok.low i nd hm).2
        have hi2 := (HG.out.1.ok.low i nd hm).1
        have i0 : (0 : Int) ≤ (i : Int) := by omega
        have i1 : (i : Int) < (cap : Int) := by omega
        have HM := Lib.hid hm; have HLO := Lib.hid hl; have HIC := Lib.hid hic; have HI2 := Lib.hid hi2
        unfold ledV
        dsimp only
        clear hl hm hic hi2 hdir hdi
        go_wp2_with fail
        refine (refPlace_any HR3.out HG.out.1.ok s hs).mono ?_
        rintro e w4 ⟨p, la, ofb, rfl, hpl, hb4⟩
        have HF4 := Lib.hid (HF3.out.below hb4)
        have HR4 := Lib.hid (HR3.out.below hb4)
        have a4 := HF4.out.c0; have b4 := HF4.out.c1; have d4 := HF4.out.f1
        have HB4 := Lib.hid hb4
        clear hb4 a3 b3 d3
        by_cases hz : placeC M s = 0
        · obtain ⟨hl, hpd, rfl, rfl⟩ := hpl hz
          rw [hz]
          obtain ⟨ndp, fp, hmp, -⟩ := isDir_there hpd
          have hpc := (HG.out.1.ok.low p ndp hmp).2
          have HL := Lib.hid hl; have HPD := Lib.hid hpd; have HPC := Lib.hid hpc; have HZ := Lib.hid hz
          clear hpl hl hpd hmp hpc hz
          obtain ⟨ho1, ho2⟩ := par_split HL1.out
          obtain ⟨hs1, hs2⟩ := par_split HL2.out
          have HSO := Lib.hid (fun wx => refSplit_any old ho wx); have HSS := Lib.hid (fun wx => refSplit_any s hs wx)
          unfold SplitPost at HSO HSS
          rw [ho1, ho2] at HSO
          rw [hs1, hs2] at HSS
          generalize hna : parN old ++ [parL old] = na at *
          generalize hnb : parN s ++ [parL s] = nb at *
          have HNA := Lib.hid hna; have HNB := Lib.hid hnb
          have hla : na.length ≤ 1000 := by have := splitN_count old; rw [ho2] at this; exact this
          have hlb : nb.length ≤ 1000 := by have := splitN_count s; rw [hs2] at this; exact this
          have HSZ : Hid (∀ x ∈ nb, x.size ≤ 1000000) := Lib.hid (by
            intro x hx
            have := splitN_size s x (by rw [hs2]; exact hx)
            omega)
          have HLB : Hid (0 ≤ longN nb ∧ longN nb ≤ 2000000000) := Lib.hid (by
            have := longN_bd nb HSZ.out
            omega)
          have HPR : Hid (isPre na (parN s) = (decide (na.length < nb.length) && isPre na nb)) := Lib.hid (pre_par hnb)
          clear hna hnb ho1 ho2 hs1 hs2
          generalize hdo : splitD old = sdo at *
          clear hdo
          generalize hds : splitD s = sds at *
          have HDS := Lib.hid hds
          clear hds
          go_wp2_with fail
          refine (HSO.out w4).mono ?_
          rintro e w5 ⟨u3, rfl, hst3, hb5⟩
          have HF5 := Lib.hid (HF4.out.below hb5)
          have HR5 := Lib.hid (HR4.out.below hb5)
          have a5 := HF5.out.c0; have b5 := HF5.out.c1; have d5 := HF5.out.f1
          have HB5 := Lib.hid hb5
          clear hb5 a4 b4 d4
          have HST3 := Lib.hid hst3
          clear hst3 HSO
          go_wp2_with fail
          refine (HSS.out w5).mono ?_
          rintro e w6 ⟨u4, rfl, hst4, hb6⟩
          have HF6 := Lib.hid (HF5.out.below hb6)
          have HR6 := Lib.hid (HR5.out.below hb6)
          have a6 := HF6.out.c0; have b6 := HF6.out.c1; have d6 := HF6.out.f1
          have HB6 := Lib.hid hb6
          clear hb6 a5 b5 d5
          have HST4 := Lib.hid hst4
          have HST3b := Lib.hid ((HST3.out.below HB6.out).mono HB6.out.size)
          clear hst4 HSS HST3
          obtain ⟨a3, c3, rfl⟩ := HST3b.out.shape
          obtain ⟨a4, c4, rfl⟩ := HST4.out.shape
          obtain ⟨g', c', hv', -, hg', hkd'⟩ := HR6.out.kds
          obtain ⟨hv1, -, -⟩ := Value.slice.inj hv'
          have hgg : g = g' := by injection hv1 with hv1; injection hv1
          subst hgg
          have k0 := hkd' i HIC.out
          clear hv' hv1 hg' hkd' 
          have hkq := (refM_file hdn.out).2
          generalize (refM M i).kd = ki at *
          have HPF : Hid (True) := Lib.hid trivial
          have HST4b := HST4
          clear HST3b HST4
          cases sds with
          | true =>
            have HMK : Hid (renameN M old s = (20, M)) := Lib.hid (by unfold renameN; rw [if_neg (by rw [HL1.out]; decide), if_neg (by rw [HL2.out]; decide), HLO.out]; dsimp only; rw [if_neg (by rw [HZ.out]; decide), HL.out]; dsimp only; rw [hdn.out, HDS.out]; rfl)
            go_wp2_with fail
            obtain ⟨r1, r2, r3⟩ := HF6.out.ret HR6.out
            refine bodyPost_ret (results_row_tmp rfl _ _ (w.heap.size + 1) _ _ _ _ rfl r1 Tryz.underlying30 rfl (by kernel_rfl)) rfl ?_
            rw [HMK.out]
            exact ⟨_, rfl, r2, r3⟩
          | false =>
            have HE := Lib.hid (entry_any HR6.out HPC.out (parL s))
            cases hen : entN M p (parL s) with
            | none =>
              have hen2 : entI (refM M p).en (parL s) = 0 := by unfold entI; rw [refM_en, hen]; rfl
              rw [hen2] at HE
              have hne : ((0 : Int) == (i : Int)) = false := by have := HI2.out; simp; omega
              have HEN := Lib.hid hen
              clear hen hen2
              go_wp2_with fail
              refine (HE.out).mono ?_
              rintro e w7 ⟨rfl, hb7⟩
              have HF7 := Lib.hid (HF6.out.below hb7)
              have HR7 := Lib.hid (HR6.out.below hb7)
              have a7 := HF7.out.c0; have b7 := HF7.out.c1; have d7 := HF7.out.f1
              have HB7 := Lib.hid hb7
              clear hb7 a6 b6 d6
              clear k0 hkq
              have HRN : Hid (renameN M old s = movedN M M old s p i) := Lib.hid (by unfold renameN; rw [if_neg (by rw [HL1.out]; decide), if_neg (by rw [HL2.out]; decide), HLO.out]; dsimp only; rw [if_neg (by rw [HZ.out]; decide), HL.out]; dsimp only; rw [hdn.out, Bool.false_and, if_neg (by decide), HDS.out]; rw [if_neg (by decide)]; rw [HEN.out])
              have HOK : Hid (∀ f, leadN M 2 (parN old) = .inl f → entN M f (parL old) = some i → MvOk M M old s p i f) := Lib.hid fun f h3 h4 => ⟨h3, h4, HL.out, HPD.out, by first | (rw [HNA.out, HPF.out, Bool.and_false]) | (rw [hdn.out, Bool.false_and]), .inl ⟨HEN.out, rfl⟩⟩
              go_wp2_with fail
              go_quiet (fail)
              have HB8 := Lib.hid (below_drewN (Below.refl w7.heap.size w7) nq)
              generalize w7.drewN nq = w8 at HB8 ⊢
              have HF8 := Lib.hid (HF7.out.below HB8.out)
              have HR8 := Lib.hid (HR7.out.below HB8.out)
              have a8 := HF8.out.c0; have b8 := HF8.out.c1; have d8 := HF8.out.f1
              clear a7 b7 d7
              obtain ⟨fo, hlf, hef⟩ := look_par HL1.out HLO.out
              obtain ⟨hGd, hf1, hf2, hf3, hf4, hf5, -, -⟩ := (HOK.out fo hlf hef).facts HG.out
              have HMK : Hid (renameN M old s = (0, moveM M fo (parL old) p (parL s) i)) := Lib.hid (by rw [HRN.out]; unfold movedN; rw [hdn.out, Bool.false_and]; rw [if_neg (by decide), hf1])
              have HPZ := Lib.hid (place_zero HL1.out hf1 (ent_dir hf2))
              have HGD := Lib.hid hGd; have HF1 := Lib.hid hf1; have HF2 := Lib.hid hf2; have HF4 := Lib.hid hf4; have HF5 := Lib.hid hf5
              clear hlf hef hGd hf1 hf2 hf3 hf4 hf5
              have HPL := Lib.hid (refPlace_any HR8.out HGD.out.1.ok old ho)
              unfold treeV PlacePost at HPL
              rw [HPZ.out] at HPL
              go_wp2_with fail
              clear a8 b8 d8
              refine HPL.out.mono ?_
              rintro e wp ⟨pf, lf, of2, rfl, hpf, hbp⟩
              obtain ⟨hl7, -, -, -⟩ := hpf (by simp)
              have hpfo : pf = fo := by rw [HF1.out] at hl7; injection hl7 with hl7; exact hl7.symm
              subst hpfo
              have HFp := Lib.hid (HF8.out.below hbp)
              have HRp := Lib.hid (HR8.out.below hbp)
              have ap := HFp.out.c0; have bp := HFp.out.c1; have dp := HFp.out.f1
              clear hpf hbp hl7 HPL
              obtain ⟨ndf, ff, hmf, -⟩ := isDir_there (ent_dir HF2.out)
              have hfc := (HGD.out.1.ok.low pf ndf hmf).2
              have HCU := Lib.hid (cut_any HRp.out hfc (parL old))
              unfold treeV at HCU
              clear hmf
              go_wp2_with fail
              refine HCU.out.mono ?_
              rintro e wq ⟨vq, rfl, hrq, hbq⟩
              have HFq := Lib.hid (HFp.out.below hbq)
              have hrq' := hrq.next HFp.out
              have HPU := Lib.hid (put_any hrq' HPC.out (parL s) i (by
                unfold setK
                by_cases e : p = pf
                · rw [if_pos e]
                  show updE _ _ _ _ = none
                  unfold updE
                  by_cases e2 : parL s = parL old
                  · rw [if_pos e2]
                  · rw [if_neg e2, refM_en, ← e]; exact HF5.out
                · rw [if_neg e, refM_en]; exact HF5.out) (fun L hL => by
                by_cases e : p = pf
                · subst e
                  have hK : setK (refM M) p ⟨(refM M p).kd, (refM M p).dt, updE (refM M p).en (parL old) none⟩ p = ⟨(refM M p).kd, (refM M p).dt, updE (refM M p).en (parL old) none⟩ := if_pos rfl
                  rw [hK] at hL
                  have := few_cut HGD.out.1 hcap hL
                  omega
                · have hK : setK (refM M) pf ⟨(refM M pf).kd, (refM M pf).dt, updE (refM M pf).en (parL old) none⟩ p = refM M p := if_neg e
                  rw [hK] at hL
                  have := few_names HGD.out.1 hcap hL
                  omega))
              unfold treeV at HPU
              obtain ⟨-, gq, cq, rfl, -⟩ := id hrq
              clear hrq hbq hrq' HCU ap bp dp
              go_wp2_with fail
              refine HPU.out.mono ?_
              rintro e wz ⟨vz, rfl, hrz, hbz⟩
              obtain ⟨-, gz, cz, rfl, -⟩ := id hrz
              have HFz := Lib.hid (HFq.out.below hbz)
              have HRz := Lib.hid (hrz.next HFq.out)
              have az := HFz.out.c0; have bz := HFz.out.c1; have dz := HFz.out.f1
              clear hrz hbz HPU
              go_wp2_with fail
              obtain ⟨r1, r2, r3⟩ := HFz.out.ret HRz.out
              refine bodyPost_ret (results_row_tmp rfl _ _ (w.heap.size + 1) _ _ _ _ rfl r1 Tryz.underlying30 rfl (by kernel_rfl)) rfl ?_
              rw [HMK.out]
              rw [refM_move (ent_dir HF2.out) HF4.out] at r2
              exact ⟨_, rfl, r2, r3⟩
            | some j =>
              obtain ⟨ndj, hmj⟩ := Option.isSome_iff_exists.1 (HG.out.1.ok.ent p (parL s) j hen)
              have hj2 := (HG.out.1.ok.low j ndj hmj).1
              have hjc := (HG.out.1.ok.low j ndj hmj).2
              have hjz : ((j : Int) != 0) = true := by simp; omega
              have hen2 : entI (refM M p).en (parL s) = j := by unfold entI; rw [refM_en, hen]; rfl
              rw [hen2] at HE
              have HEN := Lib.hid hen; have HMJ := Lib.hid hmj
              clear hen hen2 hmj
              go_wp2_with fail
              refine (HE.out).mono ?_
              rintro e w7 ⟨rfl, hb7⟩
              have HF7 := Lib.hid (HF6.out.below hb7)
              have HR7 := Lib.hid (HR6.out.below hb7)
              have a7 := HF7.out.c0; have b7 := HF7.out.c1; have d7 := HF7.out.f1
              have HB7 := Lib.hid hb7
              clear hb7 a6 b6 d6
              clear k0 hkq
              by_cases hji : j = i
              · subst hji
                have hne : ((j : Int) == (j : Int)) = true := by simp
                have HMK : Hid (renameN M old s = (0, M)) := Lib.hid (by unfold renameN; rw [if_neg (by rw [HL1.out]; decide), if_neg (by rw [HL2.out]; decide), HLO.out]; dsimp only; rw [if_neg (by rw [HZ.out]; decide), HL.out]; dsimp only; rw [hdn.out, Bool.false_and, if_neg (by decide), HDS.out]; rw [if_neg (by decide)]; rw [HEN.out]; dsimp only; rw [if_pos rfl])
                clear hjz
                go_wp2_with fail
                obtain ⟨r1, r2, r3⟩ := HF7.out.ret HR7.out
                refine bodyPost_ret (results_row_tmp rfl _ _ (w.heap.size + 1) _ _ _ _ rfl r1 Tryz.underlying30 rfl (by kernel_rfl)) rfl ?_
                rw [HMK.out]
                exact ⟨_, rfl, r2, r3⟩
              · have hne : ((j : Int) == (i : Int)) = false := by simp; omega
                have HJI := Lib.hid hji
                clear hji
                obtain ⟨-, g', c', hv', -, hg', hkd'⟩ := HR7.out
                obtain ⟨hv1, -, -⟩ := Value.slice.inj hv'
                have hgg : g = g' := by injection hv1 with hv1; injection hv1
                subst hgg
                obtain ⟨ev, q0, -, q2, L, hEL, -, ea, ec, rfl, -⟩ := hkd' j hjc
                have hlen := ent_len hEL
                have j0 : (0 : Int) ≤ (j : Int) := by omega
                have j1 : (j : Int) < (cap : Int) := by omega
                clear hv' hv1 hg' hkd' hEL
                cases hdj : isDir M j with
                | true =>
                  rw [refM_dir hdj] at q0
                  have HMK : Hid (renameN M old s = (21, M)) := Lib.hid (by unfold renameN; rw [if_neg (by rw [HL1.out]; decide), if_neg (by rw [HL2.out]; decide), HLO.out]; dsimp only; rw [if_neg (by rw [HZ.out]; decide), HL.out]; dsimp only; rw [hdn.out, Bool.false_and, if_neg (by decide), HDS.out]; rw [if_neg (by decide)]; rw [HEN.out]; dsimp only; rw [if_neg HJI.out]; rw [if_pos (by rw [show wrongN M j false = 21 by unfold wrongN; rw [if_neg (by decide), hdj]; rfl]; decide), show wrongN M j false = 21 by unfold wrongN; rw [if_neg (by decide), hdj]; rfl])
                  clear hdj hlen
                  go_wp2_with fail
                  obtain ⟨r1, r2, r3⟩ := HF7.out.ret HR7.out
                  refine bodyPost_ret (results_row_tmp rfl _ _ (w.heap.size + 1) _ _ _ _ rfl r1 Tryz.underlying30 rfl (by kernel_rfl)) rfl ?_
                  rw [HMK.out]
                  exact ⟨_, rfl, r2, r3⟩
                | false =>
                  rw [refM_one HMJ.out hdj] at q0
                  have hlx : L.length = 0 := by rw [has_file hdj] at hlen; have := of_decide_eq_false hlen.symm; omega
                  have hlz : ((L.length : Nat) : Int) = 0 := by omega
                  have hgt : decide (0 < ((L.length : Nat) : Int)) = false := dec_false (by omega)
                  have HNO := Lib.hid (wrong_none (M := M) (i := j) (dir := false) (by unfold wrongN; rw [if_neg (by decide), hdj]; rfl))
                  have HRN : Hid (renameN M old s = movedN M (dropT M p (parL s) j) old s p i) := Lib.hid (by unfold renameN; rw [if_neg (by rw [HL1.out]; decide), if_neg (by rw [HL2.out]; decide), HLO.out]; dsimp only; rw [if_neg (by rw [HZ.out]; decide), HL.out]; dsimp only; rw [hdn.out, Bool.false_and, if_neg (by decide), HDS.out]; rw [if_neg (by decide)]; rw [HEN.out]; dsimp only; rw [if_neg HJI.out]; rw [if_neg (by rw [show wrongN M j false = 0 by unfold wrongN; rw [if_neg (by decide), hdj]; rfl]; decide)])
                  have HOK : Hid (∀ f, leadN M 2 (parN old) = .inl f → entN M f (parL old) = some i → MvOk M (dropT M p (parL s) j) old s p i f) := Lib.hid fun f h3 h4 => ⟨h3, h4, HL.out, HPD.out, by first | (rw [HNA.out, HPF.out, Bool.and_false]) | (rw [hdn.out, Bool.false_and]), .inr ⟨j, HEN.out, HJI.out, HNO.out, rfl⟩⟩
                  clear hdj hlen
                  go_wp2_with fail
                  go_quiet (fail)
                  have HB8 := Lib.hid (below_drewN (Below.refl w7.heap.size w7) nq)
                  generalize w7.drewN nq = w8 at HB8 ⊢
                  have HF8 := Lib.hid (HF7.out.below HB8.out)
                  have HR8 := Lib.hid (HR7.out.below HB8.out)
                  have a8 := HF8.out.c0; have b8 := HF8.out.c1; have d8 := HF8.out.f1
                  clear a7 b7 d7
                  clear q0 q2 hlz hgt
                  obtain ⟨fo, hlf, hef⟩ := look_par HL1.out HLO.out
                  obtain ⟨hGd, hf1, hf2, hf3, hf4, hf5, -, -⟩ := (HOK.out fo hlf hef).facts HG.out
                  have HMK : Hid (renameN M old s = (0, moveM (dropT M p (parL s) j) fo (parL old) p (parL s) i)) := Lib.hid (by rw [HRN.out]; unfold movedN; rw [hdn.out, Bool.false_and]; rw [if_neg (by decide), hf1])
                  have HPZ := Lib.hid (place_zero HL1.out hf1 (ent_dir hf2))
                  have HGD := Lib.hid hGd; have HF1 := Lib.hid hf1; have HF2 := Lib.hid hf2; have HF4 := Lib.hid hf4; have HF5 := Lib.hid hf5
                  clear hlf hef hGd hf1 hf2 hf3 hf4 hf5
                  have HDR := Lib.hid (refDrop_any HR8.out HG.out.1 HEN.out HNO.out)
                  unfold treeV at HDR
                  go_wp2_with fail
                  refine HDR.out.mono ?_
                  rintro e w9 ⟨v7, rfl, hr7, hb7⟩
                  obtain ⟨-, g7, c7, rfl, -⟩ := id hr7
                  have hF7 := HF8.out.below hb7
                  have HF9s := Lib.hid (hF7.set (.slice (some ⟨g7, 0, none⟩) cap c7))
                  have HR9s := Lib.hid ((hr7.next HF8.out).set2 (.slice (some ⟨g7, 0, none⟩) cap c7))
                  have x0 := hF7.c0; have x1 := hF7.f0
                  clear hr7 hb7 hF7 HDR a8 b8 d8
                  have HPL := Lib.hid (refPlace_any HR9s.out HGD.out.1.ok old ho)
                  unfold treeV PlacePost at HPL
                  rw [HPZ.out] at HPL
                  have y0 := HF9s.out.c0
                  go_wp2_with fail
                  generalize w9.setCell ⟨w.heap.size, 0, none⟩ (.slice (some ⟨g7, 0, none⟩) cap c7) = w9s at *
                  clear x0 x1 y0
                  refine HPL.out.mono ?_
                  rintro e wp ⟨pf, lf, of2, rfl, hpf, hbp⟩
                  obtain ⟨hl7, -, -, -⟩ := hpf (by simp)
                  have hpfo : pf = fo := by rw [HF1.out] at hl7; injection hl7 with hl7; exact hl7.symm
                  subst hpfo
                  have HFp := Lib.hid (HF9s.out.below hbp)
                  have HRp := Lib.hid (HR9s.out.below hbp)
                  have ap := HFp.out.c0; have bp := HFp.out.c1; have dp := HFp.out.f1
                  clear hpf hbp hl7 HPL
                  obtain ⟨ndf, ff, hmf, -⟩ := isDir_there (ent_dir HF2.out)
                  have hfc := (HGD.out.1.ok.low pf ndf hmf).2
                  have HCU := Lib.hid (cut_any HRp.out hfc (parL old))
                  unfold treeV at HCU
                  clear hmf
                  go_wp2_with fail
                  refine HCU.out.mono ?_
                  rintro e wq ⟨vq, rfl, hrq, hbq⟩
                  have HFq := Lib.hid (HFp.out.below hbq)
                  have hrq' := hrq.next HFp.out
                  have HPU := Lib.hid (put_any hrq' HPC.out (parL s) i (by
                    unfold setK
                    by_cases e : p = pf
                    · rw [if_pos e]
                      show updE _ _ _ _ = none
                      unfold updE
                      by_cases e2 : parL s = parL old
                      · rw [if_pos e2]
                      · rw [if_neg e2, refM_en, ← e]; exact HF5.out
                    · rw [if_neg e, refM_en]; exact HF5.out) (fun L hL => by
                    by_cases e : p = pf
                    · subst e
                      have hK : setK (refM (dropT M p (parL s) j)) p ⟨(refM (dropT M p (parL s) j) p).kd, (refM (dropT M p (parL s) j) p).dt, updE (refM (dropT M p (parL s) j) p).en (parL old) none⟩ p = ⟨(refM (dropT M p (parL s) j) p).kd, (refM (dropT M p (parL s) j) p).dt, updE (refM (dropT M p (parL s) j) p).en (parL old) none⟩ := if_pos rfl
                      rw [hK] at hL
                      have := few_cut HGD.out.1 hcap hL
                      omega
                    · have hK : setK (refM (dropT M p (parL s) j)) pf ⟨(refM (dropT M p (parL s) j) pf).kd, (refM (dropT M p (parL s) j) pf).dt, updE (refM (dropT M p (parL s) j) pf).en (parL old) none⟩ p = refM (dropT M p (parL s) j) p := if_neg e
                      rw [hK] at hL
                      have := few_names HGD.out.1 hcap hL
                      omega))
                  unfold treeV at HPU
                  obtain ⟨-, gq, cq, rfl, -⟩ := id hrq
                  clear hrq hbq hrq' HCU ap bp dp
                  go_wp2_with fail
                  refine HPU.out.mono ?_
                  rintro e wz ⟨vz, rfl, hrz, hbz⟩
                  obtain ⟨-, gz, cz, rfl, -⟩ := id hrz
                  have HFz := Lib.hid (HFq.out.below hbz)
                  have HRz := Lib.hid (hrz.next HFq.out)
                  have az := HFz.out.c0; have bz := HFz.out.c1; have dz := HFz.out.f1
                  clear hrz hbz HPU
                  go_wp2_with fail
                  obtain ⟨r1, r2, r3⟩ := HFz.out.ret HRz.out
                  refine bodyPost_ret (results_row_tmp rfl _ _ (w.heap.size + 1) _ _ _ _ rfl r1 Tryz.underlying30 rfl (by kernel_rfl)) rfl ?_
                  rw [HMK.out]
                  rw [refM_move (ent_dir HF2.out) HF4.out] at r2
                  exact ⟨_, rfl, r2, r3⟩
        · have HMK : Hid (renameN M old s = (placeC M s, M)) := Lib.hid (by unfold renameN; rw [if_neg (by rw [HL1.out]; decide), if_neg (by rw [HL2.out]; decide), HLO.out]; dsimp only; rw [if_pos hz])
          have hzz : (placeC M s != 0) = true := by simp [hz]
          clear hpl hz
          generalize placeC M s = pc at *
          go_wp2_with fail
          obtain ⟨r1, r2, r3⟩ := HF4.out.ret HR4.out
          refine bodyPost_ret (results_row_tmp rfl _ _ (w.heap.size + 1) _ _ _ _ rfl r1 Tryz.underlying30 rfl (by kernel_rfl)) rfl ?_
          rw [HMK.out]
          exact ⟨_, rfl, r2, r3⟩
    · have HMK : Hid (renameN M old s = (parE s, M)) := Lib.hid (by unfold renameN; rw [if_neg (by rw [h1]; decide), if_pos h2])
      have hzz : (parE s != 0) = true := by simp [h2]
      clear h1 h2
      generalize parE s = pc at *
      go_wp2_with fail
      obtain ⟨r1, r2, r3⟩ := HF2.out.ret HR2.out
      refine bodyPost_ret (results_row_tmp rfl _ _ (w.heap.size + 1) _ _ _ _ rfl r1 Tryz.underlying30 rfl (by kernel_rfl)) rfl ?_
      rw [HMK.out]
      exact ⟨_, rfl, r2, r3⟩
  · have HMK : Hid (renameN M old s = (parE old, M)) := Lib.hid (by unfold renameN; rw [if_pos h1])
    have hzz : (parE old != 0) = true := by simp [h1]
    clear h1
    generalize parE old = pc at *
    go_wp2_with fail
    obtain ⟨r1, r2, r3⟩ := HF1.out.ret HR1.out
    refine bodyPost_ret (results_row_tmp rfl _ _ (w.heap.size + 1) _ _ _ _ rfl r1 Tryz.underlying30 rfl (by kernel_rfl)) rfl ?_
    rw [HMK.out]
    exact ⟨_, rfl, r2, r3⟩
end
end Go.Proofs.YtoofcnehoffllaaGreat
