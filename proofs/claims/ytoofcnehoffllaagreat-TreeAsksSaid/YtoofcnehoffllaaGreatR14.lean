/- Walk of the reference's Link (printed by tools/genref.py). -/
/- Walk of the reference's Remove (printed by tools/genref.py). -/
/- Walk of the reference's begins. -/
import Derived.Test.YtoofcnehoffllaaGreatR11
namespace Go.Proofs.YtoofcnehoffllaaGreat
open Go.RowKit

section
variable {D : Nat → Prop} {w : World} {v : Value} {cap : Nat} {M : TM}
theorem dat_link {p i x : Nat} {s : ByteArray} : datN (linkM M p s i) x = datN M x := by unfold linkM; rw [setE_same.2, link_same.2]
theorem refM_link {p i : Nat} {s : ByteArray} (hp : isDir M p = true) : setK (refM M) p ⟨(refM M p).kd, (refM M p).dt, updE (refM M p).en s (some i)⟩ = refM (linkM M p s i) := by
  obtain ⟨he, hd, hs, -⟩ := ent_link (M := M) (i := i) (s := s) hp
  funext x
  unfold setK
  by_cases e : x = p
  · subst e
    rw [if_pos rfl]
    refine RN.eq ?_ ?_ fun t => ?_
    · rw [refM_eq (linkM M x s i), refM_eq M]
      dsimp only
      rw [hd, hs]
    · rw [refM_eq (linkM M x s i), refM_eq M]
      dsimp only
      rw [dat_link]
    · show updE (refM M x).en s (some i) t = (refM (linkM M x s i) x).en t
      rw [refM_en, he]
      unfold updE putE
      by_cases e2 : t = s
      · rw [if_pos e2, if_pos ⟨rfl, e2⟩]
      · rw [if_neg e2, if_neg (fun h => e2 h.2), refM_en]
  · rw [if_neg e]
    refine (refM_same (hd x) (hs x) dat_link fun t => ?_).symm
    rw [he, putE_other (fun h => e h.1)]
set_option maxHeartbeats 8000000 in
set_option maxRecDepth 100000 in
theorem refLink_any (h : RefIs D w v cap (refM M)) (hG : Good M cap) (old s : ByteArray) (ho : old.size ≤ 1000000) (hs : s.size ≤ 1000000) :
    Calls Tryz.prog 26 #[treeV v, .string old, .string s] w fun e w' => ∃ v', e = .returned (.tuple #[treeV v', .int .i64 (linkN M old s).1]) ∧ RefIs (fun b => D b ∨ w.heap.size ≤ b) w' v' cap (refM (linkN M old s).2) ∧ Below w.heap.size w w' := by
  have hcap := h.1
  obtain ⟨g, c, hvv, hD, hg, hn⟩ := h.at_
  subst hvv
  have HR0 := Lib.hid h.two; have HG := Lib.hid hG
  have HF0 := Lib.hid (FrT.start w (.slice (some ⟨g, 0, none⟩) cap c))
  have HR00 := Lib.hid (h.two.below HF0.out.bel)
  clear h hn hG
  unfold treeV
  go_enter Tryz.func26, Tryz.ntmps26
  generalize hw0 : (w.alloc (.cells #[.slice (some ⟨g, 0, none⟩) cap c] 30 (0, 0))).alloc (.cells #[.slice none 0 0] 30 (0, 0)) = w0 at HF0 HR00
  go_wp2_with fail
  clear hw0 HR0
  have HR0 := HR00
  clear HR00
  refine (refSplit_any old ho w0).mono ?_
  rintro e w1 ⟨u1, rfl, hst1, hb1⟩
  have HF1 := Lib.hid (HF0.out.below hb1)
  have HR1 := Lib.hid (HR0.out.below hb1)
  have a1 := HF1.out.c0; have b1 := HF1.out.c1; have d1 := HF1.out.f1
  have HB1 := Lib.hid hb1
  clear hb1
  clear hst1
  by_cases h1 : splitE old = 0
  · rw [h1]
    go_wp2_with fail
    refine (refParent_any s hs w1).mono ?_
    rintro e w2 ⟨u2, rfl, hst2, hb2⟩
    have HF2 := Lib.hid (HF1.out.below hb2)
    have HR2 := Lib.hid (HR1.out.below hb2)
    have a2 := HF2.out.c0; have b2 := HF2.out.c1; have d2 := HF2.out.f1
    have HB2 := Lib.hid hb2
    clear hb2 a1 b1 d1
    clear hst2
    by_cases h2 : parE s = 0
    · rw [h2]
      go_wp2_with fail
      refine (refLook_any HR2.out HG.out.1.ok old ho).mono ?_
      rintro e w3 ⟨rfl, hb3⟩
      have HF3 := Lib.hid (HF2.out.below hb3)
      have HR3 := Lib.hid (HR2.out.below hb3)
      have a3 := HF3.out.c0; have b3 := HF3.out.c1; have d3 := HF3.out.f1
      have HB3 := Lib.hid hb3
      clear hb3 a2 b2 d2
      have HL1 := Lib.hid h1; have HL2 := Lib.hid h2
      clear h1 h2
      cases hl : lookN M old with
      | inr q =>
        have hq := look_nz hl
        have HMK : Hid (linkN M old s = (q, M)) := Lib.hid (by unfold linkN; rw [if_neg (by rw [HL1.out]; decide), if_neg (by rw [HL2.out]; decide), hl])
        have hz : (q != 0) = true := by simp [hq]
        unfold ledV
        dsimp only
        clear hl hq
        go_wp2_with fail
        obtain ⟨r1, r2, r3⟩ := HF3.out.ret HR3.out
        refine bodyPost_ret (results_row_tmp rfl _ _ (w.heap.size + 1) _ _ _ _ rfl r1 Tryz.underlying30 rfl (by kernel_rfl)) rfl ?_
        rw [HMK.out]
        exact ⟨_, rfl, r2, r3⟩
      | inl i =>
        obtain ⟨nd, hm⟩ := Option.isSome_iff_exists.1 (look_is HG.out.1.ok hl)
        have hic := (HG.out.1.ok.low i nd hm).2
        have i0 : (0 : Int) ≤ (i : Int) := by omega
        have i1 : (i : Int) < (cap : Int) := by omega
        have HM := Lib.hid hm; have HLO := Lib.hid hl; have HIC := Lib.hid hic
        obtain ⟨g', c', hv', -, hg', hkd'⟩ := HR3.out.kds
        obtain ⟨hv1, -, -⟩ := Value.slice.inj hv'
        have hgg : g = g' := by injection hv1 with hv1; injection hv1
        subst hgg
        have k0 := hkd' i hic
        unfold ledV
        dsimp only
        clear hv' hv1 hg' hkd' hl hm hic
        cases hd : isDir M i with
        | true =>
          have HMK : Hid (linkN M old s = (1, M)) := Lib.hid (by unfold linkN; rw [if_neg (by rw [HL1.out]; decide), if_neg (by rw [HL2.out]; decide), HLO.out]; dsimp only; rw [if_pos hd])
          rw [refM_dir hd] at k0
          clear hd
          go_wp2_with fail
          obtain ⟨r1, r2, r3⟩ := HF3.out.ret HR3.out
          refine bodyPost_ret (results_row_tmp rfl _ _ (w.heap.size + 1) _ _ _ _ rfl r1 Tryz.underlying30 rfl (by kernel_rfl)) rfl ?_
          rw [HMK.out]
          exact ⟨_, rfl, r2, r3⟩
        | false =>
          have hkq := (refM_file hd).2
          have HD := Lib.hid hd
          clear hd
          generalize (refM M i).kd = ki at *
          go_wp2_with fail
          refine (refPlace_any HR3.out HG.out.1.ok s hs).mono ?_
          rintro e w4 ⟨p, la, ofb, rfl, hpl, hb4⟩
          have HF4 := Lib.hid (HF3.out.below hb4)
          have HR4 := Lib.hid (HR3.out.below hb4)
          have a4 := HF4.out.c0; have b4 := HF4.out.c1; have d4 := HF4.out.f1
          have HB4 := Lib.hid hb4
          clear hb4 a3 b3 d3
          clear k0 hkq
          by_cases hz : placeC M s = 0
          · obtain ⟨hl, hpd, rfl, rfl⟩ := hpl hz
            rw [hz]
            obtain ⟨ndp, fp, hmp, -⟩ := isDir_there hpd
            have hpc := (HG.out.1.ok.low p ndp hmp).2
            have HFR : Hid (freshC M s false = if (entN M p (parL s)).isSome then 17 else if splitD s then 21 else 0) := Lib.hid (by rw [fresh_pl hz hl]; simp)
            have HL := Lib.hid hl; have HPD := Lib.hid hpd; have HPC := Lib.hid hpc; have HZ := Lib.hid hz
            clear hpl hl hpd hmp hpc hz
            cases hen : entN M p (parL s) with
            | some j =>
              obtain ⟨ndj, hmj⟩ := Option.isSome_iff_exists.1 (HG.out.1.ok.ent p (parL s) j hen)
              have hj2 := (HG.out.1.ok.low j ndj hmj).1
              have hjz : ((j : Int) != 0) = true := by simp; omega
              have hen2 : entI (refM M p).en (parL s) = j := by unfold entI; rw [refM_en, hen]; rfl
              have HMK : Hid (linkN M old s = (17, M)) := Lib.hid (by unfold linkN; rw [if_neg (by rw [HL1.out]; decide), if_neg (by rw [HL2.out]; decide), HLO.out]; dsimp only; rw [if_neg (by rw [HD.out]; decide), HFR.out, hen]; rfl)
              have HE := Lib.hid (fun wx (hb : Below w4.heap.size w4 wx) => entry_any (HR4.out.below hb) HPC.out (parL s))
              rw [hen2] at HE
              clear hen hen2 hmj hj2
              go_wp2_with fail
              refine (HE.out _ (Below.refl _ _)).mono ?_
              rintro e w5 ⟨rfl, hb5⟩
              have HF5 := Lib.hid (HF4.out.below hb5)
              have HR5 := Lib.hid (HR4.out.below hb5)
              have a5 := HF5.out.c0; have b5 := HF5.out.c1; have d5 := HF5.out.f1
              have HB5 := Lib.hid hb5
              clear hb5 a4 b4 d4
              go_wp2_with fail
              obtain ⟨r1, r2, r3⟩ := HF5.out.ret HR5.out
              refine bodyPost_ret (results_row_tmp rfl _ _ (w.heap.size + 1) _ _ _ _ rfl r1 Tryz.underlying30 rfl (by kernel_rfl)) rfl ?_
              rw [HMK.out]
              exact ⟨_, rfl, r2, r3⟩
            | none =>
              have hen2 : entI (refM M p).en (parL s) = 0 := by unfold entI; rw [refM_en, hen]; rfl
              have HE := Lib.hid (fun wx (hb : Below w4.heap.size w4 wx) => entry_any (HR4.out.below hb) HPC.out (parL s))
              rw [hen2] at HE
              rw [hen] at HFR
              have HEN := Lib.hid hen
              clear hen hen2
              go_wp2_with fail
              refine (HE.out _ (Below.refl _ _)).mono ?_
              rintro e w5 ⟨rfl, hb5⟩
              have HF5 := Lib.hid (HF4.out.below hb5)
              have HR5 := Lib.hid (HR4.out.below hb5)
              have a5 := HF5.out.c0; have b5 := HF5.out.c1; have d5 := HF5.out.f1
              have HB5 := Lib.hid hb5
              clear hb5 a4 b4 d4
              cases hsd : splitD s with
              | true =>
                have HMK : Hid (linkN M old s = (21, M)) := Lib.hid (by unfold linkN; rw [if_neg (by rw [HL1.out]; decide), if_neg (by rw [HL2.out]; decide), HLO.out]; dsimp only; rw [if_neg (by rw [HD.out]; decide), HFR.out, hsd]; rfl)
                clear hsd
                go_wp2_with fail
                obtain ⟨r1, r2, r3⟩ := HF5.out.ret HR5.out
                refine bodyPost_ret (results_row_tmp rfl _ _ (w.heap.size + 1) _ _ _ _ rfl r1 Tryz.underlying30 rfl (by kernel_rfl)) rfl ?_
                rw [HMK.out]
                exact ⟨_, rfl, r2, r3⟩
              | false =>
                rw [hsd] at HFR
                have HFZ : Hid (freshC M s false = 0) := Lib.hid HFR.out
                clear hsd HFR
                go_wp2_with fail
                refine (links_any HR5.out i).mono ?_
                rintro e w6 ⟨nl, rfl, hli, hb6⟩
                have HF6 := Lib.hid (HF5.out.below hb6)
                have HR6 := Lib.hid (HR5.out.below hb6)
                have a6 := HF6.out.c0; have b6 := HF6.out.c1; have d6 := HF6.out.f1
                have HB6 := Lib.hid hb6
                clear hb6 a5 b5 d5
                have hlk := links_lk HG.out.1 (by rw [HM.out]; rfl) hli
                have hb100 := (HG.out.1.lk i (by rw [HM.out]; rfl)).2.1
                clear hli
                by_cases hh : lkN M i = 100
                · have hge : decide (100 ≤ (nl : Int)) = true := dec_true (by omega)
                  have hge2 : decide ((nl : Int) < 100) = false := dec_false (by omega)
                  have HMK : Hid (linkN M old s = (31, M)) := Lib.hid (by unfold linkN; rw [if_neg (by rw [HL1.out]; decide), if_neg (by rw [HL2.out]; decide), HLO.out]; dsimp only; rw [if_neg (by rw [HD.out]; decide), if_neg (by rw [HFZ.out]; decide), if_pos hh])
                  clear hlk hb100 hh
                  go_wp2_with fail
                  obtain ⟨r1, r2, r3⟩ := HF6.out.ret HR6.out
                  refine bodyPost_ret (results_row_tmp rfl _ _ (w.heap.size + 1) _ _ _ _ rfl r1 Tryz.underlying30 rfl (by kernel_rfl)) rfl ?_
                  rw [HMK.out]
                  exact ⟨_, rfl, r2, r3⟩
                · have hge : decide (100 ≤ (nl : Int)) = false := dec_false (by omega)
                  have hge2 : decide ((nl : Int) < 100) = true := dec_true (by omega)
                  have HMK : Hid (linkN M old s = (0, linkM M p (parL s) i)) := Lib.hid (by unfold linkN; rw [if_neg (by rw [HL1.out]; decide), if_neg (by rw [HL2.out]; decide), HLO.out]; dsimp only; rw [if_neg (by rw [HD.out]; decide), if_neg (by rw [HFZ.out]; decide), if_neg hh, HL.out])
                  clear hlk hb100 hh
                  have HPU := Lib.hid (put_any HR6.out HPC.out (parL s) i (by rw [refM_en]; exact HEN.out) (fun L hL => by have := few_names HG.out.1 hcap hL; omega))
                  unfold treeV at HPU
                  go_wp2_with fail
                  refine HPU.out.mono ?_
                  rintro e w9 ⟨v9, rfl, hr9, hb9⟩
                  obtain ⟨-, g9, c9, rfl, -⟩ := id hr9
                  have HF9 := Lib.hid (HF6.out.below hb9)
                  have HR9 := Lib.hid (hr9.next HF6.out)
                  have a9 := HF9.out.c0; have b9 := HF9.out.c1; have d9 := HF9.out.f1
                  clear hr9 hb9 HPU a6 b6 d6
                  go_wp2_with fail
                  obtain ⟨r1, r2, r3⟩ := HF9.out.ret HR9.out
                  refine bodyPost_ret (results_row_tmp rfl _ _ (w.heap.size + 1) _ _ _ _ rfl r1 Tryz.underlying30 rfl (by kernel_rfl)) rfl ?_
                  rw [HMK.out]
                  rw [refM_link HPD.out] at r2
                  exact ⟨_, rfl, r2, r3⟩
          · have HMK : Hid (linkN M old s = (placeC M s, M)) := Lib.hid (by unfold linkN; rw [if_neg (by rw [HL1.out]; decide), if_neg (by rw [HL2.out]; decide), HLO.out]; dsimp only; rw [if_neg (by rw [HD.out]; decide), if_pos (by rw [fresh_no hz]; exact hz), fresh_no hz])
            have hzz : (placeC M s != 0) = true := by simp [hz]
            clear hpl hz
            generalize placeC M s = pc at *
            go_wp2_with fail
            obtain ⟨r1, r2, r3⟩ := HF4.out.ret HR4.out
            refine bodyPost_ret (results_row_tmp rfl _ _ (w.heap.size + 1) _ _ _ _ rfl r1 Tryz.underlying30 rfl (by kernel_rfl)) rfl ?_
            rw [HMK.out]
            exact ⟨_, rfl, r2, r3⟩
    · have HMK : Hid (linkN M old s = (parE s, M)) := Lib.hid (by unfold linkN; rw [if_neg (by rw [h1]; decide), if_pos h2])
      have hzz : (parE s != 0) = true := by simp [h2]
      clear h1 h2
      generalize parE s = pc at *
      go_wp2_with fail
      obtain ⟨r1, r2, r3⟩ := HF2.out.ret HR2.out
      refine bodyPost_ret (results_row_tmp rfl _ _ (w.heap.size + 1) _ _ _ _ rfl r1 Tryz.underlying30 rfl (by kernel_rfl)) rfl ?_
      rw [HMK.out]
      exact ⟨_, rfl, r2, r3⟩
  · have HMK : Hid (linkN M old s = (splitE old, M)) := Lib.hid (by unfold linkN; rw [if_pos h1])
    have hzz : (splitE old != 0) = true := by simp [h1]
    clear h1
    generalize splitE old = pc at *
    go_wp2_with fail
    obtain ⟨r1, r2, r3⟩ := HF1.out.ret HR1.out
    refine bodyPost_ret (results_row_tmp rfl _ _ (w.heap.size + 1) _ _ _ _ rfl r1 Tryz.underlying30 rfl (by kernel_rfl)) rfl ?_
    rw [HMK.out]
    exact ⟨_, rfl, r2, r3⟩
end
end Go.Proofs.YtoofcnehoffllaaGreat

namespace Go.Proofs.YtoofcnehoffllaaGreat
open Go.RowKit

section
variable {D : Nat → Prop} {w : World} {v : Value} {cap : Nat} {M : TM}
open Classical in
theorem ent_len {i : Nat} {L : List (ByteArray × Nat)} (h : EntL (refM M i).en L) : hasN M i = decide (0 < L.length) := by
  unfold hasN
  by_cases h0 : 0 < L.length
  · rw [decide_eq_true h0]
    obtain ⟨x, hx⟩ : ∃ x, L[0]? = some x := ⟨_, List.getElem?_eq_getElem h0⟩
    have := (h.2 x.1 x.2).1 (List.mem_of_getElem? hx)
    rw [refM_en] at this
    exact decide_eq_true ⟨_, _, this⟩
  · rw [decide_eq_false h0]
    refine decide_eq_false ?_
    rintro ⟨s, j, hs⟩
    rw [← refM_en] at hs
    have hq := (h.2 s j).2 hs
    have hl : L = [] := List.eq_nil_of_length_eq_zero (by omega)
    rw [hl] at hq
    cases hq
open Classical in
theorem has_file {i : Nat} (h : isDir M i = false) : hasN M i = false := by
  unfold hasN
  refine decide_eq_false ?_
  rintro ⟨s, j, hs⟩
  rw [ent_dir hs] at h; cases h
theorem refM_one {i : Nat} {nd : Nd} (hm : M i = some nd) (hd : isDir M i = false) : (refM M i).kd = 1 := by
  rw [refM_kd, hd, hm]; rfl
theorem place_zero {s : ByteArray} {p : Nat} (h : parE s = 0) (hl : leadN M 2 (parN s) = .inl p) (hd : isDir M p = true) : placeC M s = 0 := by
  unfold placeC
  rw [h, if_neg (by decide), hl]
  dsimp only
  rw [if_pos hd]
set_option maxHeartbeats 8000000 in
set_option maxRecDepth 100000 in
theorem refUnlink_any (h : RefIs D w v cap (refM M)) (hG : Good M cap) (s : ByteArray) (hs : s.size ≤ 1000000) :
    Calls Tryz.prog 27 #[treeV v, .string s, .int .i64 1] w fun e w' => ∃ v', e = .returned (.tuple #[treeV v', .int .i64 (goneN M s false).1]) ∧ RefIs (fun b => D b ∨ w.heap.size ≤ b) w' v' cap (refM (goneN M s false).2) ∧ Below w.heap.size w w' := by
  have hcap := h.1
  obtain ⟨g, c, hvv, hD, hg, hn⟩ := h.at_
  subst hvv
  have HR0 := Lib.hid h.two; have HG := Lib.hid hG
  have HF0 := Lib.hid (FrT.start w (.slice (some ⟨g, 0, none⟩) cap c))
  have HR00 := Lib.hid (h.two.below HF0.out.bel)
  clear h hn hG
  unfold treeV
  go_enter Tryz.func27, Tryz.ntmps27
  generalize hw0 : (w.alloc (.cells #[.slice (some ⟨g, 0, none⟩) cap c] 30 (0, 0))).alloc (.cells #[.slice none 0 0] 30 (0, 0)) = w0 at HF0 HR00
  go_wp2_with fail
  clear hw0 HR0
  have HR0 := HR00
  clear HR00
  refine (refParent_any s hs w0).mono ?_
  rintro e w1 ⟨u1, rfl, hst1, hb1⟩
  have HF1 := Lib.hid (HF0.out.below hb1)
  have HR1 := Lib.hid (HR0.out.below hb1)
  have a1 := HF1.out.c0; have b1 := HF1.out.c1; have d1 := HF1.out.f1
  have HB1 := Lib.hid hb1
  clear hb1
  clear hst1
  by_cases h1 : parE s = 0
  · rw [h1]
    go_wp2_with fail
    refine (refLook_any HR1.out HG.out.1.ok s hs).mono ?_
    rintro e w2 ⟨rfl, hb2⟩
    have HF2 := Lib.hid (HF1.out.below hb2)
    have HR2 := Lib.hid (HR1.out.below hb2)
    have a2 := HF2.out.c0; have b2 := HF2.out.c1; have d2 := HF2.out.f1
    have HB2 := Lib.hid hb2
    clear hb2 a1 b1 d1
    have HL1 := Lib.hid h1
    clear h1
    cases hl : lookN M s with
    | inr q =>
      have hq := look_nz hl
      have HMK : Hid (goneN M s false = (q, M)) := Lib.hid (by unfold goneN; rw [if_neg (by rw [HL1.out]; decide), hl])
      have hz : (q != 0) = true := by simp [hq]
      unfold ledV
      dsimp only
      clear hl hq
      go_wp2_with fail
      obtain ⟨r1, r2, r3⟩ := HF2.out.ret HR2.out
      refine bodyPost_ret (results_row_tmp rfl _ _ (w.heap.size + 1) _ _ _ _ rfl r1 Tryz.underlying30 rfl (by kernel_rfl)) rfl ?_
      rw [HMK.out]
      exact ⟨_, rfl, r2, r3⟩
    | inl i =>
      obtain ⟨nd, hm⟩ := Option.isSome_iff_exists.1 (look_is HG.out.1.ok hl)
      have hic := (HG.out.1.ok.low i nd hm).2
      have i0 : (0 : Int) ≤ (i : Int) := by omega
      have i1 : (i : Int) < (cap : Int) := by omega
      have HM := Lib.hid hm; have HLO := Lib.hid hl; have HIC := Lib.hid hic
      obtain ⟨-, g', c', hv', -, hg', hkd'⟩ := HR2.out
      obtain ⟨hv1, -, -⟩ := Value.slice.inj hv'
      have hgg : g = g' := by injection hv1 with hv1; injection hv1
      subst hgg
      obtain ⟨ev, k0, -, k2, L, hL, -, ea, ec, rfl, -⟩ := hkd' i hic
      have hlen := ent_len hL
      unfold ledV
      dsimp only
      clear hv' hv1 hg' hkd' hl hm hic hL
      cases hd : isDir M i with
      | true =>
        rw [refM_dir hd] at k0
        have HMK : Hid (goneN M s false = (21, M)) := Lib.hid (by unfold goneN; rw [if_neg (by rw [HL1.out]; decide), HLO.out]; dsimp only; rw [if_pos (by rw [show wrongN M i false = 21 by unfold wrongN; rw [if_neg (by decide), hd]; rfl]; decide), show wrongN M i false = 21 by unfold wrongN; rw [if_neg (by decide), hd]; rfl])
        clear hd hlen
        go_wp2_with fail
        obtain ⟨r1, r2, r3⟩ := HF2.out.ret HR2.out
        refine bodyPost_ret (results_row_tmp rfl _ _ (w.heap.size + 1) _ _ _ _ rfl r1 Tryz.underlying30 rfl (by kernel_rfl)) rfl ?_
        rw [HMK.out]
        exact ⟨_, rfl, r2, r3⟩
      | false =>
        rw [refM_one HM.out hd] at k0
        have hlx : L.length = 0 := by rw [has_file hd] at hlen; have := of_decide_eq_false hlen.symm; omega
        have hlz : ((L.length : Nat) : Int) = 0 := by omega
        have hgt : decide (0 < ((L.length : Nat) : Int)) = false := dec_false (by omega)
        have HNO := Lib.hid (wrong_none (M := M) (i := i) (dir := false) (by unfold wrongN; rw [if_neg (by decide), hd]; rfl))
        obtain ⟨p, hlp, hep⟩ := look_par HL1.out HLO.out
        have HMK : Hid (goneN M s false = (0, dropT M p (parL s) i)) := Lib.hid (by unfold goneN; rw [if_neg (by rw [HL1.out]; decide), HLO.out]; dsimp only; rw [if_neg (by rw [show wrongN M i false = 0 by unfold wrongN; rw [if_neg (by decide), hd]; rfl]; decide), hlp])
        have HPZ := Lib.hid (place_zero HL1.out hlp (ent_dir hep))
        have HEP := Lib.hid hep; have HLP := Lib.hid hlp
        clear hlp hep hd hlen
        go_wp2_with fail
        refine (refPlace_any HR2.out HG.out.1.ok s hs).mono ?_
        rintro e w3 ⟨p2, la, ofb, rfl, hpl, hb3⟩
        have HF3 := Lib.hid (HF2.out.below hb3)
        have HR3 := Lib.hid (HR2.out.below hb3)
        have a3 := HF3.out.c0; have b3 := HF3.out.c1; have d3 := HF3.out.f1
        have HB3 := Lib.hid hb3
        clear hb3 a2 b2 d2
        obtain ⟨hl2, -, rfl, rfl⟩ := hpl HPZ.out
        have hpe : p2 = p := by rw [HLP.out] at hl2; injection hl2 with hl2; exact hl2.symm
        subst hpe
        clear hpl hl2 k0 k2 hlz hgt
        have HDR := Lib.hid (refDrop_any HR3.out HG.out.1 HEP.out HNO.out)
        unfold treeV at HDR
        generalize placeC M s = pc at *
        go_wp2_with fail
        refine HDR.out.mono ?_
        rintro e w9 ⟨v9, rfl, hr9, hb9⟩
        obtain ⟨-, g9, c9, rfl, -⟩ := id hr9
        have HF9 := Lib.hid (HF3.out.below hb9)
        have HR9 := Lib.hid (hr9.next HF3.out)
        have a9 := HF9.out.c0; have b9 := HF9.out.c1; have d9 := HF9.out.f1
        clear hr9 hb9 HDR a3 b3 d3
        go_wp2_with fail
        obtain ⟨r1, r2, r3⟩ := HF9.out.ret HR9.out
        refine bodyPost_ret (results_row_tmp rfl _ _ (w.heap.size + 1) _ _ _ _ rfl r1 Tryz.underlying30 rfl (by kernel_rfl)) rfl ?_
        rw [HMK.out]
        exact ⟨_, rfl, r2, r3⟩
  · have HMK : Hid (goneN M s false = (parE s, M)) := Lib.hid (by unfold goneN; rw [if_pos h1])
    have hzz : (parE s != 0) = true := by simp [h1]
    clear h1
    generalize parE s = pc at *
    go_wp2_with fail
    obtain ⟨r1, r2, r3⟩ := HF1.out.ret HR1.out
    refine bodyPost_ret (results_row_tmp rfl _ _ (w.heap.size + 1) _ _ _ _ rfl r1 Tryz.underlying30 rfl (by kernel_rfl)) rfl ?_
    rw [HMK.out]
    exact ⟨_, rfl, r2, r3⟩
set_option maxHeartbeats 8000000 in
set_option maxRecDepth 100000 in
theorem refRmdir_any (h : RefIs D w v cap (refM M)) (hG : Good M cap) (s : ByteArray) (hs : s.size ≤ 1000000) :
    Calls Tryz.prog 27 #[treeV v, .string s, .int .i64 2] w fun e w' => ∃ v', e = .returned (.tuple #[treeV v', .int .i64 (goneN M s true).1]) ∧ RefIs (fun b => D b ∨ w.heap.size ≤ b) w' v' cap (refM (goneN M s true).2) ∧ Below w.heap.size w w' := by
  have hcap := h.1
  obtain ⟨g, c, hvv, hD, hg, hn⟩ := h.at_
  subst hvv
  have HR0 := Lib.hid h.two; have HG := Lib.hid hG
  have HF0 := Lib.hid (FrT.start w (.slice (some ⟨g, 0, none⟩) cap c))
  have HR00 := Lib.hid (h.two.below HF0.out.bel)
  clear h hn hG
  unfold treeV
  go_enter Tryz.func27, Tryz.ntmps27
  generalize hw0 : (w.alloc (.cells #[.slice (some ⟨g, 0, none⟩) cap c] 30 (0, 0))).alloc (.cells #[.slice none 0 0] 30 (0, 0)) = w0 at HF0 HR00
  go_wp2_with fail
  clear hw0 HR0
  have HR0 := HR00
  clear HR00
  refine (refParent_any s hs w0).mono ?_
  rintro e w1 ⟨u1, rfl, hst1, hb1⟩
  have HF1 := Lib.hid (HF0.out.below hb1)
  have HR1 := Lib.hid (HR0.out.below hb1)
  have a1 := HF1.out.c0; have b1 := HF1.out.c1; have d1 := HF1.out.f1
  have HB1 := Lib.hid hb1
  clear hb1
  clear hst1
  by_cases h1 : parE s = 0
  · rw [h1]
    go_wp2_with fail
    refine (refLook_any HR1.out HG.out.1.ok s hs).mono ?_
    rintro e w2 ⟨rfl, hb2⟩
    have HF2 := Lib.hid (HF1.out.below hb2)
    have HR2 := Lib.hid (HR1.out.below hb2)
    have a2 := HF2.out.c0; have b2 := HF2.out.c1; have d2 := HF2.out.f1
    have HB2 := Lib.hid hb2
    clear hb2 a1 b1 d1
    have HL1 := Lib.hid h1
    clear h1
    cases hl : lookN M s with
    | inr q =>
      have hq := look_nz hl
      have HMK : Hid (goneN M s true = (q, M)) := Lib.hid (by unfold goneN; rw [if_neg (by rw [HL1.out]; decide), hl])
      have hz : (q != 0) = true := by simp [hq]
      unfold ledV
      dsimp only
      clear hl hq
      go_wp2_with fail
      obtain ⟨r1, r2, r3⟩ := HF2.out.ret HR2.out
      refine bodyPost_ret (results_row_tmp rfl _ _ (w.heap.size + 1) _ _ _ _ rfl r1 Tryz.underlying30 rfl (by kernel_rfl)) rfl ?_
      rw [HMK.out]
      exact ⟨_, rfl, r2, r3⟩
    | inl i =>
      obtain ⟨nd, hm⟩ := Option.isSome_iff_exists.1 (look_is HG.out.1.ok hl)
      have hic := (HG.out.1.ok.low i nd hm).2
      have i0 : (0 : Int) ≤ (i : Int) := by omega
      have i1 : (i : Int) < (cap : Int) := by omega
      have HM := Lib.hid hm; have HLO := Lib.hid hl; have HIC := Lib.hid hic
      obtain ⟨-, g', c', hv', -, hg', hkd'⟩ := HR2.out
      obtain ⟨hv1, -, -⟩ := Value.slice.inj hv'
      have hgg : g = g' := by injection hv1 with hv1; injection hv1
      subst hgg
      obtain ⟨ev, k0, -, k2, L, hL, -, ea, ec, rfl, -⟩ := hkd' i hic
      have hlen := ent_len hL
      unfold ledV
      dsimp only
      clear hv' hv1 hg' hkd' hl hm hic hL
      cases hd : isDir M i with
      | true =>
        rw [refM_dir hd] at k0
        cases hh : hasN M i with
        | true =>
          have hgt : decide (0 < ((L.length : Nat) : Int)) = true := dec_true (by rw [hh] at hlen; have := of_decide_eq_true hlen.symm; omega)
          have hg2 : 0 < L.length := of_decide_eq_true (by rw [← hlen, hh])
          have hg3 : ¬ L = [] := fun e => by rw [e] at hg2; simp at hg2
          have hg4 : (0 : Int) < ((L.length : Nat) : Int) := by omega
          have HMK : Hid (goneN M s true = (39, M)) := Lib.hid (by unfold goneN; rw [if_neg (by rw [HL1.out]; decide), HLO.out]; dsimp only; rw [if_pos (by rw [show wrongN M i true = 39 by unfold wrongN; rw [if_pos rfl, if_pos hd, hh]; rfl]; decide), show wrongN M i true = 39 by unfold wrongN; rw [if_pos rfl, if_pos hd, hh]; rfl])
          clear hd hh hlen
          go_wp2_with fail
          obtain ⟨r1, r2, r3⟩ := HF2.out.ret HR2.out
          refine bodyPost_ret (results_row_tmp rfl _ _ (w.heap.size + 1) _ _ _ _ rfl r1 Tryz.underlying30 rfl (by kernel_rfl)) rfl ?_
          rw [HMK.out]
          exact ⟨_, rfl, r2, r3⟩
        | false =>
          have hlz0 : L.length = 0 := by rw [hh] at hlen; have := of_decide_eq_false hlen.symm; omega
          have HLZ := Lib.hid hlz0
          clear hlz0
          have hlx := HLZ.out
          have hlz : ((L.length : Nat) : Int) = 0 := by omega
          have hgt : decide (0 < ((L.length : Nat) : Int)) = false := dec_false (by omega)
          have HNO := Lib.hid (wrong_none (M := M) (i := i) (dir := true) (by unfold wrongN; rw [if_pos rfl, if_pos hd, hh]; rfl))
          obtain ⟨p, hlp, hep⟩ := look_par HL1.out HLO.out
          have HMK : Hid (goneN M s true = (0, dropT M p (parL s) i)) := Lib.hid (by unfold goneN; rw [if_neg (by rw [HL1.out]; decide), HLO.out]; dsimp only; rw [if_neg (by rw [show wrongN M i true = 0 by unfold wrongN; rw [if_pos rfl, if_pos hd, hh]; rfl]; decide), hlp])
          have HPZ := Lib.hid (place_zero HL1.out hlp (ent_dir hep))
          have HEP := Lib.hid hep; have HLP := Lib.hid hlp
          clear hlp hep hd hlen hh
          go_wp2_with fail
          refine (refPlace_any HR2.out HG.out.1.ok s hs).mono ?_
          rintro e w3 ⟨p2, la, ofb, rfl, hpl, hb3⟩
          have HF3 := Lib.hid (HF2.out.below hb3)
          have HR3 := Lib.hid (HR2.out.below hb3)
          have a3 := HF3.out.c0; have b3 := HF3.out.c1; have d3 := HF3.out.f1
          have HB3 := Lib.hid hb3
          clear hb3 a2 b2 d2
          obtain ⟨hl2, -, rfl, rfl⟩ := hpl HPZ.out
          have hpe : p2 = p := by rw [HLP.out] at hl2; injection hl2 with hl2; exact hl2.symm
          subst hpe
          clear hpl hl2 k0 k2 hlz hgt
          have HDR := Lib.hid (refDrop_any HR3.out HG.out.1 HEP.out HNO.out)
          unfold treeV at HDR
          generalize placeC M s = pc at *
          go_wp2_with fail
          refine HDR.out.mono ?_
          rintro e w9 ⟨v9, rfl, hr9, hb9⟩
          obtain ⟨-, g9, c9, rfl, -⟩ := id hr9
          have HF9 := Lib.hid (HF3.out.below hb9)
          have HR9 := Lib.hid (hr9.next HF3.out)
          have a9 := HF9.out.c0; have b9 := HF9.out.c1; have d9 := HF9.out.f1
          clear hr9 hb9 HDR a3 b3 d3
          go_wp2_with fail
          obtain ⟨r1, r2, r3⟩ := HF9.out.ret HR9.out
          refine bodyPost_ret (results_row_tmp rfl _ _ (w.heap.size + 1) _ _ _ _ rfl r1 Tryz.underlying30 rfl (by kernel_rfl)) rfl ?_
          rw [HMK.out]
          exact ⟨_, rfl, r2, r3⟩
      | false =>
        rw [refM_one HM.out hd] at k0
        have HMK : Hid (goneN M s true = (20, M)) := Lib.hid (by unfold goneN; rw [if_neg (by rw [HL1.out]; decide), HLO.out]; dsimp only; rw [if_pos (by rw [show wrongN M i true = 20 by unfold wrongN; rw [if_pos rfl, hd]; rfl]; decide), show wrongN M i true = 20 by unfold wrongN; rw [if_pos rfl, hd]; rfl])
        clear hd hlen
        go_wp2_with fail
        obtain ⟨r1, r2, r3⟩ := HF2.out.ret HR2.out
        refine bodyPost_ret (results_row_tmp rfl _ _ (w.heap.size + 1) _ _ _ _ rfl r1 Tryz.underlying30 rfl (by kernel_rfl)) rfl ?_
        rw [HMK.out]
        exact ⟨_, rfl, r2, r3⟩
  · have HMK : Hid (goneN M s true = (parE s, M)) := Lib.hid (by unfold goneN; rw [if_pos h1])
    have hzz : (parE s != 0) = true := by simp [h1]
    clear h1
    generalize parE s = pc at *
    go_wp2_with fail
    obtain ⟨r1, r2, r3⟩ := HF1.out.ret HR1.out
    refine bodyPost_ret (results_row_tmp rfl _ _ (w.heap.size + 1) _ _ _ _ rfl r1 Tryz.underlying30 rfl (by kernel_rfl)) rfl ?_
    rw [HMK.out]
    exact ⟨_, rfl, r2, r3⟩
end
end Go.Proofs.YtoofcnehoffllaaGreat

namespace Go.Proofs.YtoofcnehoffllaaGreat
open Go.RowKit

section
variable {w : World} {B : Nat} {u v : Value} {l m : List ByteArray}
theorem pre_take {k : Nat} {x y : ByteArray} (hx : l[k]? = some x) (hy : m[k]? = some y) (h : l.take k = m.take k) : (l.take (k + 1) = m.take (k + 1)) ↔ x = y := take_succ_iff l m k x y hx hy h
set_option maxHeartbeats 4000000 in
set_option maxRecDepth 100000 in
theorem begins_any (hu : StrsAt B w u l) (hv : StrsAt B w v m) (hB : B ≤ w.heap.size) (hl : l.length ≤ 1000) (hm : m.length ≤ 1000) :
    Calls Tryz.prog 58 #[u, v] w fun e w' => e = .returned (.bool (isPre m l)) ∧ Below w.heap.size w w' := by
  obtain ⟨ua, uc, rfl⟩ := hu.shape
  obtain ⟨va, vc, rfl⟩ := hv.shape
  have HU := Lib.hid hu; have HV := Lib.hid hv
  obtain ⟨r, hr⟩ : ∃ r, r = isPre m l := ⟨_, rfl⟩
  rw [← hr]
  have HR := Lib.hid hr
  clear hu hv hr
  go_enter Tryz.func58, Tryz.ntmps58
  go_wp2_with fail
  go_loopw [8] (fun idx wy => ∃ k : Nat, k ≤ m.length ∧ idx = .int .i64 k ∧ k ≤ l.length ∧ m.take k = l.take k ∧ Below w.heap.size w wy) (fun idx _ => m.length - (RowKit.intOf idx).toNat)
  case atStart => exact ⟨0, by omega, rfl, by omega, rfl, Below.refl _ _⟩
  case round =>
    obtain ⟨k, hk, rfl, hkl, hpre, hb⟩ := hrel
    have HP := Lib.hid hpre; have HB := Lib.hid hb
    clear hpre hb
    by_cases hlt : k < m.length
    · obtain ⟨y, hy⟩ : ∃ y, m[k]? = some y := ⟨_, List.getElem?_eq_getElem hlt⟩
      have k0 : (0 : Int) ≤ (k : Int) := by omega
      have k1 : (k : Int) < (m.length : Int) := by omega
      by_cases hll : k < l.length
      · obtain ⟨x, hx⟩ : ∃ x, l[k]? = some x := ⟨_, List.getElem?_eq_getElem hll⟩
        have k2 : (k : Int) < (l.length : Int) := by omega
        have k3 : decide ((l.length : Int) ≤ (k : Int)) = false := dec_false (by omega)
        have k4 : decide ((k : Int) < (l.length : Int)) = true := dec_true (by omega)
        rcases HU.out with ⟨h0, _⟩ | ⟨gu, ou, cu, he, _, _, hgu, hcu⟩
        · rw [h0] at hll; simp at hll
        rcases HV.out with ⟨h0, _⟩ | ⟨gv, ov, cv, he', _, _, hgv, hcv⟩
        · rw [h0] at hlt; simp at hlt
        injection he with e1 _ e3
        injection he' with e1' _ e3'
        subst e1 e3 e1' e3'
        have c0 := (World.cell?_of_block (w := w) (a := ⟨gu, ou + k, none⟩) (HB.out.block gu (by omega))).trans (hcu k x hx)
        have c1 := (World.cell?_of_block (w := w) (a := ⟨gv, ov + k, none⟩) (HB.out.block gv (by omega))).trans (hcv k y hy)
        have HX := Lib.hid hx; have HY := Lib.hid hy
        clear hcu hcv hx hy
        by_cases hxy : x = y
        · have q := str_eq hxy
          have HN : Hid (m.take (k + 1) = l.take (k + 1)) := Lib.hid ((pre_take HY.out HX.out HP.out).2 hxy.symm)
          clear hxy
          go_wp2_with fail
          go_quiet (fail)
          have HB2 := Lib.hid (below_drewN HB.out nq)
          clear c0 c1
          generalize wr.drewN nq = w2 at *
          go_wp2_with fail
          go_roundw
          case rel => exact ⟨k + 1, by omega, by go_num, by omega, HN.out, HB2.out⟩
          case measure => simp only [RowKit.intOf]; omega
        · have q := str_ne hxy
          have hr : r = false := by
            rw [HR.out]
            unfold isPre
            refine decide_eq_false fun h => hxy ?_
            have h1 := HY.out
            rw [h, List.getElem?_take, if_pos hlt] at h1
            rw [HX.out] at h1
            exact Option.some.inj h1
          subst hr
          clear hxy
          go_wp2_with fail
          go_quiet (fail)
          have HB2 := Lib.hid (below_drewN HB.out nq)
          clear c0 c1
          generalize wr.drewN nq = w2 at *
          go_wp2_with fail
          go_ret
          exact ⟨rfl, HB2.out⟩
      · have k3 : decide ((l.length : Int) ≤ (k : Int)) = true := dec_true (by omega)
        have k4 : decide ((k : Int) < (l.length : Int)) = false := dec_false (by omega)
        have k5 : (l.length : Int) ≤ (k : Int) := by omega
        have hr : r = false := by
          rw [HR.out]
          unfold isPre
          refine decide_eq_false fun h => ?_
          have h1 := congrArg List.length h
          rw [List.length_take] at h1
          omega
        subst hr
        clear hy
        go_wp2_with fail
        go_quiet (fail)
        have HB2 := Lib.hid (below_drewN HB.out nq)
        generalize wr.drewN nq = w2 at *
        go_wp2_with fail
        go_ret
        exact ⟨rfl, HB2.out⟩
    · obtain rfl : k = m.length := by omega
      have hr : r = true := by
        rw [HR.out]
        unfold isPre
        have := HP.out
        rw [List.take_length] at this
        exact decide_eq_true this
      subst hr
      go_wp2_with fail
      go_ret
      exact ⟨rfl, HB.out⟩
end
end Go.Proofs.YtoofcnehoffllaaGreat
