/- Walks of the reference's Truncate, Write. -/
/- Walk of the reference's Write. -/
/- Walk of the reference's below. -/
import Derived.Test.YtoofcnehoffllaaGreatR20
import Derived.Test.YtoofcnehoffllaaGreatT31
import Derived.Test.YtoofcnehoffllaaGreatT25
import Derived.Test.YtoofcnehoffllaaGreatT30
namespace Go.Proofs.YtoofcnehoffllaaGreat
open Go.RowKit

section
variable {D : Nat → Prop} {w : World} {v : Value} {cap : Nat} {M : TM}
theorem refM_setN {i : Nat} {l : Int} {d : List Int} (hi : (M i).isSome = true) : setK (refM M) i ⟨(refM M i).kd, d, (refM M i).en⟩ = refM (setN M i l d) := by
  obtain ⟨nd, hm⟩ := Option.isSome_iff_exists.1 hi
  funext x
  by_cases e : x = i
  · subst e
    have h1 : setK (refM M) x ⟨(refM M x).kd, d, (refM M x).en⟩ x = ⟨(refM M x).kd, d, (refM M x).en⟩ := if_pos rfl
    rw [h1]
    have h2 : setN M x l d x = some { nd with links := l, data := d } := setN_i hm
    unfold refM
    rw [h2, hm]
    rfl
  · have h1 : setK (refM M) i ⟨(refM M i).kd, d, (refM M i).en⟩ x = refM M x := if_neg e
    rw [h1]
    unfold refM
    rw [setN_o e]
set_option maxHeartbeats 4000000 in
set_option maxRecDepth 100000 in
theorem refTrunc_any (h : RefIs D w v cap (refM M)) (hG : TG M cap) (s : ByteArray) (hs : s.size ≤ 1000000) (k : Int) (hk : -9223372036854775808 ≤ k ∧ k ≤ 9223372036854775807) :
    Calls Tryz.prog 30 #[treeV v, .string s, .int .i64 k] w fun e w' => ∃ v', e = .returned (.tuple #[treeV v', .int .i64 (truncN M s k).1]) ∧ RefIs (fun b => D b ∨ w.heap.size ≤ b) w' v' cap (refM (truncN M s k).2) ∧ Below w.heap.size w w' := by
  have hcap := h.1
  obtain ⟨g, c, hvv, hD, hg, hn⟩ := h.at_
  subst hvv
  have HF0 := Lib.hid (FrT.start w (.slice (some ⟨g, 0, none⟩) cap c))
  have HR0 := Lib.hid (h.two.below HF0.out.bel)
  have HL := Lib.hid (refFile_any HR0.out hG.ok s hs)
  have HG := Lib.hid hG
  clear h hG hn
  unfold treeV at HL ⊢
  go_enter Tryz.func30, Tryz.ntmps30
  cases hl : fileN M s with
  | inr q =>
    have HMK : Hid (truncN M s k = (q, M)) := Lib.hid (by unfold truncN; rw [hl])
    have hq : (q != 0) = true := by simp [file_nz hl]
    rw [hl] at HL
    unfold ledV at HL
    dsimp only at HL
    clear hl
    go_wp2_with fail
    refine HL.out.mono ?_
    rintro e w1 ⟨rfl, hb1⟩
    have HF1 := Lib.hid (HF0.out.below hb1); have HR1 := Lib.hid (HR0.out.below hb1)
    have a1 := HF1.out.c0; have b1 := HF1.out.c1; have d1 := HF1.out.f1
    clear hb1 HL
    go_wp2_with fail
    obtain ⟨r1, r2, r3⟩ := HF1.out.ret HR1.out
    refine bodyPost_ret (results_row_tmp rfl _ _ (w.heap.size + 1) _ _ _ _ rfl r1 Tryz.underlying30 rfl (by kernel_rfl)) rfl ?_
    rw [HMK.out]
    exact ⟨_, rfl, r2, r3⟩
  | inl i =>
    obtain ⟨nd, hm⟩ := Option.isSome_iff_exists.1 (file_is HG.out.ok hl)
    have hic := (HG.out.ok.low i nd hm).2
    have i0 : (0 : Int) ≤ (i : Int) := by omega
    have i1 : (i : Int) < (cap : Int) := by omega
    have HTN : Hid (truncN M s k = if k < 0 then (22, M) else if 38400 < k then (27, M) else (0, setN M i (lkN M i) (sizedN (datN M i) k.toNat))) := Lib.hid (by unfold truncN; rw [hl])
    rw [hl] at HL
    unfold ledV at HL
    dsimp only at HL
    have HM := Lib.hid hm; have HIC := Lib.hid hic
    clear hl hm
    go_wp2_with fail
    refine HL.out.mono ?_
    rintro e w1 ⟨rfl, hb1⟩
    have HF1 := Lib.hid (HF0.out.below hb1); have HR1 := Lib.hid (HR0.out.below hb1)
    have a1 := HF1.out.c0; have b1 := HF1.out.c1; have d1 := HF1.out.f1
    clear hb1 HL
    by_cases h1 : k < 0
    · have q1 : decide (k < 0) = true := dec_true h1
      have HMK : Hid (truncN M s k = (22, M)) := Lib.hid (by rw [HTN.out, if_pos h1])
      go_wp2_with fail
      obtain ⟨r1, r2, r3⟩ := HF1.out.ret HR1.out
      refine bodyPost_ret (results_row_tmp rfl _ _ (w.heap.size + 1) _ _ _ _ rfl r1 Tryz.underlying30 rfl (by kernel_rfl)) rfl ?_
      rw [HMK.out]
      exact ⟨_, rfl, r2, r3⟩
    have q1 : decide (k < 0) = false := dec_false h1
    by_cases h2 : 38400 < k
    · have q2 : decide (38400 < k) = true := dec_true h2
      have HMK : Hid (truncN M s k = (27, M)) := Lib.hid (by rw [HTN.out, if_neg h1, if_pos h2])
      go_wp2_with fail
      obtain ⟨r1, r2, r3⟩ := HF1.out.ret HR1.out
      refine bodyPost_ret (results_row_tmp rfl _ _ (w.heap.size + 1) _ _ _ _ rfl r1 Tryz.underlying30 rfl (by kernel_rfl)) rfl ?_
      rw [HMK.out]
      exact ⟨_, rfl, r2, r3⟩
    have q2 : decide (38400 < k) = false := dec_false h2
    have HMK : Hid (truncN M s k = (0, setN M i (lkN M i) (sizedN (datN M i) k.toNat))) := Lib.hid (by rw [HTN.out, if_neg h1, if_neg h2])
    obtain ⟨n, rfl⟩ : ∃ n : Nat, k = (n : Int) := ⟨k.toNat, by omega⟩
    rw [Int.toNat_natCast] at HMK
    obtain ⟨-, g', c', hv', -, hg', hkd'⟩ := HR1.out
    obtain ⟨hv1, -, -⟩ := Value.slice.inj hv'
    have hgg : g = g' := by injection hv1 with hv1; injection hv1
    subst hgg
    obtain ⟨ev, k0, k1, k2, hev⟩ := hkd' i hic
    have hdt : (refM M i).dt = datN M i := by rw [refM_eq]
    rw [hdt] at k1
    have HEV := Lib.hid hev
    obtain ⟨el, ea, ec, rfl⟩ : ∃ el ea ec, ev = .slice ea el ec := by
      obtain ⟨L, -, -, ea, ec, h, -⟩ := hev
      exact ⟨_, _, _, h⟩
    clear hv' hv1 hg' hkd' hev HTN hdt
    have hbl := (Below.refl w1.heap.size w1).alloc (Nat.le_refl _) (.cells #[.int .i64 (refM M i).kd, .string (strOfNums (datN M i)), .slice ea el ec] 74 (0, 0))
    have hbx : (w1.alloc (.cells #[.int .i64 (refM M i).kd, .string (strOfNums (datN M i)), .slice ea el ec] 74 (0, 0))).heap[w1.heap.size]? = _ := blk_new rfl
    have HSI := Lib.hid (sized_any (w := w1.alloc (.cells #[.int .i64 (refM M i).kd, .string (strOfNums (datN M i)), .slice ea el ec] 74 (0, 0))) (datN M i) (by have := (HG.out.byt i).1; omega) n (by omega))
    have HBL := Lib.hid hbl; have HBX := Lib.hid hbx
    have HFA := Lib.hid (HF1.out.below hbl)
    have e0 := cell_blk_some hbx (i := 0) rfl
    have e1 := cell_blk_some hbx (i := 1) rfl
    have e2 := cell_blk_some hbx (i := 2) rfl
    clear hbl hbx
    generalize hkd : (refM M i).kd = kd at *
    have HKD := Lib.hid hkd
    clear hkd
    generalize hst : strOfNums (datN M i) = st at *
    clear hst
    go_wp2_with fail
    refine HSI.out.mono ?_
    rintro e w2 ⟨rfl, hb2⟩
    have hbx2 := (hb2.block _ (blk_lt HBX.out)).trans HBX.out
    have HF2 := Lib.hid (HFA.out.below hb2)
    have hbw : Below w1.heap.size w1 w2 := below_call HBL.out hb2 (Nat.le_refl _)
    have hr2 : RefIs (D2 D w) w2 (.slice (some ⟨g, 0, none⟩) cap c) cap (refM M) := HR1.out.below hbw
    have he2 : EntRow (D2 D w) w2 (.slice ea el ec) (refM M i).en := HEV.out.below hbw
    have y0 := cell_blk_some hbx2 (i := 0) rfl
    have y1 := cell_blk_some hbx2 (i := 1) rfl
    have y2 := cell_blk_some hbx2 (i := 2) rfl
    have z1 := free_blk (i := 1) hbx2
    generalize hzz : strOfNums (sizedN (datN M i) n) = zt at *
    have hfs : Fr (fun b => b = w1.heap.size) w2 (w2.setCell ⟨w1.heap.size, 1, none⟩ (.string zt)) := (Fr.refl (fun b => b = w1.heap.size) w2).setCell ⟨w1.heap.size, 1, none⟩ rfl _
    have hsz1 : w.heap.size + 2 ≤ w1.heap.size := HF1.out.size
    have HF3 : Hid (FrT w (w2.setCell ⟨w1.heap.size, 1, none⟩ (.string zt)) (.slice (some ⟨g, 0, none⟩) cap c)) := Lib.hid ⟨HF2.out.bel.trans (hfs.toBelow HF2.out.bel.size fun x hx => by omega), (hfs.block _ (blk_lt HF2.out.top) (by omega)).trans HF2.out.top, (hfs.block _ (blk_lt HF2.out.res) (by omega)).trans HF2.out.res⟩
    have hlow : ∀ b, b < w1.heap.size → ¬ b = w1.heap.size := fun b hb => by omega
    have hr1' := HR1.out
    have hr3 : RefIs (fun b => D2 D w b ∧ b < w1.heap.size) (w2.setCell ⟨w1.heap.size, 1, none⟩ (.string zt)) (.slice (some ⟨g, 0, none⟩) cap c) cap (refM M) := ((HR1.out.mono fun b hb h => ⟨h, hb⟩).below hbw).fr hfs fun b hb => hlow b hb.2
    have he3 : EntRow (fun b => D2 D w b ∧ b < w1.heap.size) (w2.setCell ⟨w1.heap.size, 1, none⟩ (.string zt)) (.slice ea el ec) (refM M i).en := ((HEV.out.mono fun b hb h => ⟨h, hb⟩).below hbw).fr hfs fun b hb => hlow b hb.2
    have HW := Lib.hid (with_any hr3 HIC.out (n := ⟨kd, sizedN (datN M i) n, (refM M i).en⟩) he3)
    unfold treeV nodeV at HW
    dsimp only at HW
    rw [hzz] at HW
    have HN1 : Hid (¬ w.heap.size = w1.heap.size ∧ ¬ w1.heap.size = w.heap.size) := Lib.hid ⟨by omega, by omega⟩
    obtain ⟨n1, n2⟩ := HN1.out
    have x0 := HF2.out.c0
    have HWS : Hid (w.heap.size + 2 ≤ w2.heap.size) := Lib.hid (by have := hbw.size; omega)
    clear hb2 hbx2 hbw hr2 he2 hfs hlow hr1' hr3 he3 hzz HSI e0 e1 e2 a1 b1 d1 k0 k1 k2
    go_wp2_with fail
    generalize w2.setCell ⟨w1.heap.size, 1, none⟩ (.string zt) = w3 at *
    refine HW.out.mono ?_
    rintro e w4 ⟨v4, rfl, hr4, hb4⟩
    obtain ⟨-, g4, c4, rfl, -⟩ := id hr4
    rw [← HKD.out] at hr4
    rw [refM_setN (l := lkN M i) (by rw [HM.out]; rfl)] at hr4
    have HF4 := Lib.hid (HF3.out.below hb4)
    have HR4 : Hid (RefIs (D2 D w) w4 (.slice (some ⟨g4, 0, none⟩) cap c4) cap (refM (setN M i (lkN M i) (sizedN (datN M i) n)))) := Lib.hid (hr4.mono fun b _ hb => hb.elim (fun h => h.1) fun h => .inr (by have := HF3.out.size; omega))
    have a4 := HF4.out.c0; have b4 := HF4.out.c1; have d4 := HF4.out.f1
    clear hr4 hb4 HW y0 y1 y2 z1
    go_wp2_with fail
    obtain ⟨r1, r2, r3⟩ := HF4.out.ret HR4.out
    refine bodyPost_ret (results_row_tmp rfl _ _ (w.heap.size + 1) _ _ _ _ rfl r1 Tryz.underlying30 rfl (by kernel_rfl)) rfl ?_
    rw [HMK.out]
    exact ⟨_, rfl, r2, r3⟩
end
end Go.Proofs.YtoofcnehoffllaaGreat

namespace Go.Proofs.YtoofcnehoffllaaGreat
open Go.RowKit

theorem str_zero (x : List Int) : (x.length = 0 → (strOfNums x).toList.isEmpty = true) ∧ (¬ x.length = 0 → (strOfNums x).toList.isEmpty = false) := by
  rw [Lib.toList_data, str_data]
  cases x with
  | nil => exact ⟨fun _ => rfl, fun h => absurd rfl h⟩
  | cons a l => exact ⟨fun h => by simp at h, fun _ => rfl⟩
section
variable {D : Nat → Prop} {w : World} {v : Value} {cap : Nat} {M : TM}
set_option maxHeartbeats 4000000 in
set_option maxRecDepth 100000 in
theorem refWrite_any (h : RefIs D w v cap (refM M)) (hG : TG M cap) (s : ByteArray) (hs : s.size ≤ 1000000) (k : Int) (hk : -9223372036854775808 ≤ k ∧ k ≤ 9223372036854775807) (x : List Int) (hx : x.length ≤ 1000000) :
    Calls Tryz.prog 29 #[treeV v, .string s, .int .i64 k, .string (strOfNums x)] w fun e w' => ∃ v', e = .returned (.tuple #[treeV v', .int .i64 (writeN M s k x).1]) ∧ RefIs (fun b => D b ∨ w.heap.size ≤ b) w' v' cap (refM (writeN M s k x).2) ∧ Below w.heap.size w w' := by
  have hcap := h.1
  obtain ⟨g, c, hvv, hD, hg, hn⟩ := h.at_
  subst hvv
  have HF0 := Lib.hid (FrT.start w (.slice (some ⟨g, 0, none⟩) cap c))
  have HR0 := Lib.hid (h.two.below HF0.out.bel)
  have HL := Lib.hid (refFile_any HR0.out hG.ok s hs)
  have HG := Lib.hid hG
  clear h hG hn
  unfold treeV at HL ⊢
  go_enter Tryz.func29, Tryz.ntmps29
  cases hl : fileN M s with
  | inr q =>
    have HMK : Hid (writeN M s k x = (q, M)) := Lib.hid (by unfold writeN; rw [hl])
    have hq : (q != 0) = true := by simp [file_nz hl]
    rw [hl] at HL
    unfold ledV at HL
    dsimp only at HL
    clear hl
    go_wp2_with fail
    refine HL.out.mono ?_
    rintro e w1 ⟨rfl, hb1⟩
    have HF1 := Lib.hid (HF0.out.below hb1); have HR1 := Lib.hid (HR0.out.below hb1)
    have a1 := HF1.out.c0; have b1 := HF1.out.c1; have d1 := HF1.out.f1
    clear hb1 HL
    go_wp2_with fail
    obtain ⟨r1, r2, r3⟩ := HF1.out.ret HR1.out
    refine bodyPost_ret (results_row_tmp rfl _ _ (w.heap.size + 1) _ _ _ _ rfl r1 Tryz.underlying30 rfl (by kernel_rfl)) rfl ?_
    rw [HMK.out]
    exact ⟨_, rfl, r2, r3⟩
  | inl i =>
    obtain ⟨nd, hm⟩ := Option.isSome_iff_exists.1 (file_is HG.out.ok hl)
    have hic := (HG.out.ok.low i nd hm).2
    have i0 : (0 : Int) ≤ (i : Int) := by omega
    have i1 : (i : Int) < (cap : Int) := by omega
    have HTN : Hid (writeN M s k x = if k < 0 ∨ 4096 < x.length then (22, M) else if 38400 - (x.length : Int) < k then (27, M) else if x.length = 0 then (0, M) else (0, setN M i (lkN M i) (wrData (datN M i) k.toNat x))) := Lib.hid (by unfold writeN; rw [hl])
    rw [hl] at HL
    unfold ledV at HL
    dsimp only at HL
    have HM := Lib.hid hm; have HIC := Lib.hid hic
    clear hl hm
    go_wp2_with fail
    refine HL.out.mono ?_
    rintro e w1 ⟨rfl, hb1⟩
    have HF1 := Lib.hid (HF0.out.below hb1); have HR1 := Lib.hid (HR0.out.below hb1)
    have a1 := HF1.out.c0; have b1 := HF1.out.c1; have d1 := HF1.out.f1
    clear hb1 HL
    have hxs := str_size x
    have HXS := Lib.hid hxs
    have hne := str_zero x
    have HNE := Lib.hid hne
    clear hne
    generalize hsx : strOfNums x = sx at *
    have HSX := Lib.hid hsx
    clear hsx
    by_cases h1 : k < 0
    · have q1 : decide (k < 0) = true := dec_true h1
      have HMK : Hid (writeN M s k x = (22, M)) := Lib.hid (by rw [HTN.out, if_pos (.inl h1)])
      go_wp2_with fail
      obtain ⟨r1, r2, r3⟩ := HF1.out.ret HR1.out
      refine bodyPost_ret (results_row_tmp rfl _ _ (w.heap.size + 1) _ _ _ _ rfl r1 Tryz.underlying30 rfl (by kernel_rfl)) rfl ?_
      rw [HMK.out]
      exact ⟨_, rfl, r2, r3⟩
    have q1 : decide (k < 0) = false := dec_false h1
    by_cases h3 : 4096 < x.length
    · have q3 : decide (4096 < (x.length : Int)) = true := dec_true (by omega)
      have HMK : Hid (writeN M s k x = (22, M)) := Lib.hid (by rw [HTN.out, if_pos (.inr h3)])
      go_wp2_with fail
      obtain ⟨r1, r2, r3⟩ := HF1.out.ret HR1.out
      refine bodyPost_ret (results_row_tmp rfl _ _ (w.heap.size + 1) _ _ _ _ rfl r1 Tryz.underlying30 rfl (by kernel_rfl)) rfl ?_
      rw [HMK.out]
      exact ⟨_, rfl, r2, r3⟩
    have q3 : decide (4096 < (x.length : Int)) = false := dec_false (by omega)
    have hw1 : IntKind.i64.wrap (38400 - (x.length : Int)) = 38400 - (x.length : Int) := IntWalk.i64_in _ (by omega)
    by_cases h2 : 38400 - (x.length : Int) < k
    · have q2 : decide (38400 - (x.length : Int) < k) = true := dec_true h2
      have HMK : Hid (writeN M s k x = (27, M)) := Lib.hid (by rw [HTN.out, if_neg (by omega), if_pos h2])
      go_wp2_with fail
      obtain ⟨r1, r2, r3⟩ := HF1.out.ret HR1.out
      refine bodyPost_ret (results_row_tmp rfl _ _ (w.heap.size + 1) _ _ _ _ rfl r1 Tryz.underlying30 rfl (by kernel_rfl)) rfl ?_
      rw [HMK.out]
      exact ⟨_, rfl, r2, r3⟩
    have q2 : decide (38400 - (x.length : Int) < k) = false := dec_false h2
    by_cases h4 : x.length = 0
    · have q4 : sx.toList.isEmpty = true := HNE.out.1 h4
      have HMK : Hid (writeN M s k x = (0, M)) := Lib.hid (by rw [HTN.out, if_neg (by omega), if_neg h2, if_pos h4])
      have H4 := Lib.hid h4
      clear h4
      go_wp2_with fail
      obtain ⟨r1, r2, r3⟩ := HF1.out.ret HR1.out
      refine bodyPost_ret (results_row_tmp rfl _ _ (w.heap.size + 1) _ _ _ _ rfl r1 Tryz.underlying30 rfl (by kernel_rfl)) rfl ?_
      rw [HMK.out]
      exact ⟨_, rfl, r2, r3⟩
    have q4 : sx.toList.isEmpty = false := HNE.out.2 h4
    have HMK : Hid (writeN M s k x = (0, setN M i (lkN M i) (wrData (datN M i) k.toNat x))) := Lib.hid (by rw [HTN.out, if_neg (by omega), if_neg h2, if_neg h4])
    obtain ⟨n, rfl⟩ : ∃ n : Nat, k = (n : Int) := ⟨k.toNat, by omega⟩
    rw [Int.toNat_natCast] at HMK
    have HXP := Lib.hid h4; have HNL : Hid (n + x.length ≤ 38400) := Lib.hid (by omega)
    have hxl : (x.length : Int) ≤ 4096 := by omega
    have hnl : (n : Int) ≤ 38400 := by omega
    have HD38 := Lib.hid (HG.out.byt i).1
    have hw2 : IntKind.i64.wrap ((n : Int) + (x.length : Int)) = (n : Int) + (x.length : Int) := IntWalk.i64_in _ (by omega)
    clear h1 h2 h3 h4
    obtain ⟨-, g', c', hv', -, hg', hkd'⟩ := HR1.out
    obtain ⟨hv1, -, -⟩ := Value.slice.inj hv'
    have hgg : g = g' := by injection hv1 with hv1; injection hv1
    subst hgg
    obtain ⟨ev, k0, k1, k2, hev⟩ := hkd' i hic
    have hdt : (refM M i).dt = datN M i := by rw [refM_eq]
    rw [hdt] at k1
    have HEV := Lib.hid hev
    obtain ⟨el, ea, ec, rfl⟩ : ∃ el ea ec, ev = .slice ea el ec := by
      obtain ⟨L, -, -, ea, ec, h, -⟩ := hev
      exact ⟨_, _, _, h⟩
    clear hv' hv1 hg' hkd' hev HTN hdt
    have hbl := (Below.refl w1.heap.size w1).alloc (Nat.le_refl _) (.cells #[.int .i64 (refM M i).kd, .string (strOfNums (datN M i)), .slice ea el ec] 74 (0, 0))
    have hbx : (w1.alloc (.cells #[.int .i64 (refM M i).kd, .string (strOfNums (datN M i)), .slice ea el ec] 74 (0, 0))).heap[w1.heap.size]? = _ := blk_new rfl
    have HBL := Lib.hid hbl; have HBX := Lib.hid hbx
    have HFA := Lib.hid (HF1.out.below hbl)
    have e0 := cell_blk_some hbx (i := 0) rfl
    have e1 := cell_blk_some hbx (i := 1) rfl
    have e2 := cell_blk_some hbx (i := 2) rfl
    clear hbl hbx
    generalize hkd : (refM M i).kd = kd at *
    have HKD := Lib.hid hkd
    clear hkd
    have hds := str_size (datN M i)
    generalize hst : strOfNums (datN M i) = st at *
    have HST := Lib.hid hst
    clear hst
    by_cases hlt : (datN M i).length < n + x.length
    focus
      have q5 : decide (((datN M i).length : Int) < (n : Int) + (x.length : Int)) = true := dec_true (by omega)
      have HSI := Lib.hid (sized_any (w := w1.alloc (.cells #[.int .i64 kd, .string st, .slice ea el ec] 74 (0, 0))) (datN M i) (by have := HD38.out; omega) (n + x.length) (by have := HNL.out; omega))
      rw [HST.out] at HSI
      have HDD : Hid (sizedN (datN M i) (n + x.length) = sizedN (datN M i) (max (datN M i).length (n + x.length))) := Lib.hid (by rw [Nat.max_eq_right (by omega)])
      have hcast : ((n + x.length : Nat) : Int) = (n : Int) + (x.length : Int) := by omega
      rw [hcast] at HSI
      clear hlt hcast
      go_wp2_with fail
      refine HSI.out.mono ?_
      rintro e w2 ⟨rfl, hb2⟩
      rw [HDD.out]
      clear HSI
      go_wp2_with fail
      generalize hsv : strOfNums (sizedN (datN M i) (max (datN M i).length (n + x.length))) = sv at *
      have HSV : Hid (sv = strOfNums (sizedN (datN M i) (max (datN M i).length (n + x.length)))) := Lib.hid hsv.symm
      have HB2 := Lib.hid (below_call HBL.out hb2 (Nat.le_refl _))
      have HBX2 := Lib.hid ((hb2.block _ (blk_lt HBX.out)).trans HBX.out)
      clear hsv hb2 HBX HBL HFA
    rotate_left
    focus
      have q5 : decide (((datN M i).length : Int) < (n : Int) + (x.length : Int)) = false := dec_false (by omega)
      have hdd : sizedN (datN M i) (max (datN M i).length (n + x.length)) = datN M i := by
        rw [Nat.max_eq_left (by omega)]
        unfold sizedN
        rw [Nat.sub_self, List.replicate_zero, List.append_nil, List.take_length]
      have HDD := Lib.hid hdd
      clear hlt hdd
      go_wp2_with fail
      have HSV : Hid (st = strOfNums (sizedN (datN M i) (max (datN M i).length (n + x.length)))) := Lib.hid (by rw [HDD.out]; exact HST.out.symm)
      have HB2 := HBL
      have HBX2 := HBX
      clear HBX HBL HFA
      clear HST
      generalize w1.alloc (.cells #[.int .i64 kd, .string st, .slice ea el ec] 74 (0, 0)) = w2 at *
      generalize st = sv at *
    all_goals
      obtain ⟨m, hm⟩ : ∃ m, m = max (datN M i).length (n + x.length) := ⟨_, rfl⟩
      rw [← hm] at HSV
      have HMX : Hid (m = max (datN M i).length (n + x.length)) := Lib.hid hm
      have hnm : n + x.length ≤ m := by omega
      clear hm hds
      obtain ⟨DD, hDD⟩ : ∃ DD, DD = sizedN (datN M i) m := ⟨_, rfl⟩
      rw [← hDD] at HSV
      have hDl : DD.length = m := by rw [hDD]; exact sizedN_length _ _
      have hm4 : m ≤ 80000 := by have := HMX.out; have := HD38.out; have := HNL.out; omega
      have hsvz : sv.size = m := by rw [HSV.out, str_size, hDl]
      have hA : sv.extract 0 n = strOfNums (DD.take n) := by rw [HSV.out, str_cut]; rfl
      have hB : sv.extract (n + x.length) m = strOfNums (DD.drop (n + x.length)) := by
        rw [HSV.out, str_cut, List.take_of_length_le (by rw [List.length_drop]; omega)]
      have hAX := str_app (DD.take n) x
      have hF := str_app (DD.take n ++ x) (DD.drop (n + x.length))
      have zA := str_size (DD.take n)
      have zB := str_size (DD.drop (n + x.length))
      have zAX := str_size (DD.take n ++ x)
      rw [List.length_take, Nat.min_eq_left (by omega)] at zA
      rw [List.length_drop, hDl] at zB
      rw [List.length_append, List.length_take, Nat.min_eq_left (by omega)] at zAX
      have HFIN : Hid (DD.take n ++ x ++ DD.drop (n + x.length) = wrData (datN M i) n x) := Lib.hid (by
        unfold wrData splice
        rw [hDD, HMX.out, List.append_assoc])
      rw [HFIN.out] at hF
      rw [HSX.out] at hAX
      generalize hsA : strOfNums (DD.take n) = sA at *
      generalize hsB : strOfNums (DD.drop (n + x.length)) = sB at *
      generalize hsAX : strOfNums (DD.take n ++ x) = sAX at *
      have HWR : Hid (DD.length = m) := Lib.hid hDl
      clear hsA hsB hsAX hDD hDl
      generalize hsF : strOfNums (wrData (datN M i) n x) = sF at *
      have HSF := Lib.hid hsF
      clear hsF
      have g1 : ¬ 9223372036854775807 < sA.size + sx.size := by omega
      have g2 : ¬ 9223372036854775807 < sAX.size + sB.size := by omega
      have g1a : ¬ 9223372036854775807 < n + x.length := by omega
      have g2a : ¬ 9223372036854775807 < n + x.length + (m - (n + x.length)) := by omega
      have g3 : (0 : Int) ≤ (n : Int) := by omega
      have g4 : (n : Int) ≤ (m : Int) := by omega
      have g5 : (n : Int) + (x.length : Int) ≤ (m : Int) := by omega
      have g6 : (0 : Int) ≤ (n : Int) + (x.length : Int) := by omega
      have g7 : ((n : Int) + (x.length : Int)).toNat = n + x.length := by omega
      clear hnm e0 e1 e2 k0 k1 k2 a1 b1 d1
      go_still_tail 13, (by kernel_rfl)
      change wpList _ _ _ _ _ w2.drew
      have hbd : Below w1.heap.size w1 w2.drew := below_drewN HB2.out 1
      have hbx2 : w2.drew.heap[w1.heap.size]? = _ := HBX2.out
      clear hA hB hAX hF zA zB zAX hsvz g1 g2 g1a g2a g3 g4 g5 g6 g7
      generalize w2.drew = wd at *
      have HFD := Lib.hid (HF1.out.below hbd)
      have y0 := cell_blk_some hbx2 (i := 0) rfl
      have y1 := cell_blk_some hbx2 (i := 1) rfl
      have y2 := cell_blk_some hbx2 (i := 2) rfl
      have z1 := free_blk (i := 1) hbx2
      have hfs : Fr (fun b => b = w1.heap.size) wd (wd.setCell ⟨w1.heap.size, 1, none⟩ (.string sF)) := (Fr.refl (fun b => b = w1.heap.size) wd).setCell ⟨w1.heap.size, 1, none⟩ rfl _
      have hsz1 : w.heap.size + 2 ≤ w1.heap.size := HF1.out.size
      have HF3 : Hid (FrT w (wd.setCell ⟨w1.heap.size, 1, none⟩ (.string sF)) (.slice (some ⟨g, 0, none⟩) cap c)) := Lib.hid ⟨HFD.out.bel.trans (hfs.toBelow HFD.out.bel.size fun x hx => by omega), (hfs.block _ (blk_lt HFD.out.top) (by omega)).trans HFD.out.top, (hfs.block _ (blk_lt HFD.out.res) (by omega)).trans HFD.out.res⟩
      have hlow : ∀ b, b < w1.heap.size → ¬ b = w1.heap.size := fun b hb => by omega
      have hr3 : RefIs (fun b => D2 D w b ∧ b < w1.heap.size) (wd.setCell ⟨w1.heap.size, 1, none⟩ (.string sF)) (.slice (some ⟨g, 0, none⟩) cap c) cap (refM M) := ((HR1.out.mono fun b hb h => ⟨h, hb⟩).below hbd).fr hfs fun b hb => hlow b hb.2
      have he3 : EntRow (fun b => D2 D w b ∧ b < w1.heap.size) (wd.setCell ⟨w1.heap.size, 1, none⟩ (.string sF)) (.slice ea el ec) (refM M i).en := ((HEV.out.mono fun b hb h => ⟨h, hb⟩).below hbd).fr hfs fun b hb => hlow b hb.2
      have HW := Lib.hid (with_any hr3 HIC.out (n := ⟨kd, wrData (datN M i) n x, (refM M i).en⟩) he3)
      unfold treeV nodeV at HW
      dsimp only at HW
      rw [HSF.out] at HW
      have HN1 : Hid (¬ w.heap.size = w1.heap.size ∧ ¬ w1.heap.size = w.heap.size) := Lib.hid ⟨by omega, by omega⟩
      obtain ⟨n1, n2⟩ := HN1.out
      have x0 := HFD.out.c0
      have x1 := HFD.out.c1
      have x2 := HFD.out.f1
      clear hbd hbx2 hfs hlow hr3 he3
      go_wp2_with fail
      generalize wd.setCell ⟨w1.heap.size, 1, none⟩ (.string sF) = w3 at *
      refine HW.out.mono ?_
      rintro e w4 ⟨v4, rfl, hr4, hb4⟩
      obtain ⟨-, g4, c4, rfl, -⟩ := id hr4
      rw [← HKD.out] at hr4
      rw [refM_setN (l := lkN M i) (by rw [HM.out]; rfl)] at hr4
      have HF4 := Lib.hid (HF3.out.below hb4)
      have HR4 : Hid (RefIs (D2 D w) w4 (.slice (some ⟨g4, 0, none⟩) cap c4) cap (refM (setN M i (lkN M i) (wrData (datN M i) n x)))) := Lib.hid (hr4.mono fun b _ hb => hb.elim (fun h => h.1) fun h => .inr (by have := HF3.out.size; omega))
      have a4 := HF4.out.c0; have b4 := HF4.out.c1; have d4 := HF4.out.f1
      clear hr4 hb4 HW y0 y1 y2 z1 x0 x1 x2
      go_wp2_with fail
      obtain ⟨r1, r2, r3⟩ := HF4.out.ret HR4.out
      refine bodyPost_ret (results_row_tmp rfl _ _ (w.heap.size + 1) _ _ _ _ rfl r1 Tryz.underlying30 rfl (by kernel_rfl)) rfl ?_
      rw [HMK.out]
      exact ⟨_, rfl, r2, r3⟩
end
end Go.Proofs.YtoofcnehoffllaaGreat

namespace Go.Proofs.YtoofcnehoffllaaGreat
open Go.RowKit

section
variable {D : Nat → Prop} {v : Value} {cap : Nat} {M : TM}
/-- The texts of paths on from a directory's. -/
def txtAt (M : TM) (lp : List ByteArray) (LL : List (List ByteArray)) : List Value := LL.map fun l => Value.string (pathAt M (lp ++ l))
theorem txt_len {lp : List ByteArray} {LL : List (List ByteArray)} : (txtAt M lp LL).length = LL.length := by unfold txtAt; rw [List.length_map]
theorem txt_app {lp : List ByteArray} {LL LJ : List (List ByteArray)} : txtAt M lp (LL ++ LJ) = txtAt M lp LL ++ txtAt M lp LJ := by unfold txtAt; rw [List.map_append]
theorem txt_cons {lp : List ByteArray} {s : ByteArray} {LJ : List (List ByteArray)} : txtAt M lp (LJ.map (s :: ·)) = txtAt M (lp ++ [s]) LJ := by
  unfold txtAt
  rw [List.map_map]
  refine List.map_congr_left fun l _ => ?_
  show Value.string (pathAt M (lp ++ (s :: l))) = _
  rw [List.append_assoc]; rfl
theorem below_le (hG : TG M cap) (hc : cap ≤ 201) {lp : List ByteArray} {i : Nat} (hl : goE (entN M) 2 lp = some i) {LL : List (List ByteArray)} (hn : LL.Nodup) (hp : ∀ l ∈ LL, l ≠ [] ∧ (goE (entN M) i l).isSome = true) : LL.length ≤ 20100 := by
  have := hG.paths_le hc (PL := LL.map (lp ++ ·)) (nodup_on hn fun a _ b _ e => List.append_cancel_left e) (fun l hl' => by
    obtain ⟨t, ht, rfl⟩ := List.mem_map.1 hl'
    obtain ⟨h1, h2⟩ := hp t ht
    refine ⟨fun e => h1 (List.append_eq_nil_iff.1 e).2, ?_⟩
    rw [goE_append, hl]
    exact h2)
  rwa [List.length_map] at this
theorem PartIs.le {i : Nat} {ds : List ByteArray} {LL : List (List ByteArray)} (h : PartIs M i ds LL) (hG : TG M cap) (hc : cap ≤ 201) {lp : List ByteArray} (hl : goE (entN M) 2 lp = some i) : LL.length ≤ 20100 :=
  below_le hG hc hl h.1 fun l hl' => by
    obtain ⟨s, l', e, -, hg⟩ := (h.2 l).1 hl'
    exact ⟨by rw [e]; simp, hg⟩
/-- A row that lies apart from what an append to another row turns. -/
theorem own_grow {w w' : World} {B : Nat} {u : Value} {n : Nat} {xs : List Value} {o : Obj} (hB : B ≤ w.heap.size) (h1 : w.ownsRow B 9 1 u n xs) (hf : Fr (fun y => u.ownBlock = some y) (w.alloc o) w') : Below B w w' := by
  have h4 : Fr (fun y => u.ownBlock = some y) w w' := ((Fr.refl _ w).alloc o).trans hf
  exact h4.toBelow hB fun y hy => (World.ownsRow.lt h1 y hy).1
set_option maxHeartbeats 8000000 in
set_option maxRecDepth 100000 in
theorem refBelow_any (hG : Good M cap) : ∀ (fuel : Nat) (lp : List ByteArray) (i : Nat) (w : World), goE (entN M) 2 lp = some i → isDir M i = true → 256 ≤ fuel + lp.length → RefIs D w v cap (refM M) →
    Calls Tryz.prog 62 #[treeV v, .int .i64 i, .string (pathS lp true)] w fun e w' => ∃ u LL, e = .returned u ∧ BelowIs M i LL ∧ w'.ownsRow w.heap.size 9 1 u LL.length (txtAt M lp LL) ∧ Below w.heap.size w w' := by
  intro fuel
  induction fuel with
  | zero =>
    intro lp i w hl _ hf
    have := (hG.2.len hl).2
    omega
  | succ fuel ih =>
    intro lp i w hl hdi hf h
    obtain ⟨nd, -, hm, -⟩ := isDir_there hdi
    have hic := (hG.1.ok.low i nd hm).2
    have i0 : (0 : Int) ≤ (i : Int) := by omega
    have i1 : (i : Int) < (cap : Int) := by omega
    obtain ⟨hcap, g, c, hvv, hD, hg, hn⟩ := id h
    subst hvv
    obtain ⟨ev, -, -, k2, L, hL, hLl, ea, ec, rfl, hrow⟩ := hn i hic
    obtain ⟨ht1, ht2⟩ := top_new w (.slice (some ⟨g, 0, none⟩) cap c)
    have H := Lib.hid h; have HL := Lib.hid hl; have HFU := Lib.hid hf; have IH := Lib.hid ih; have HGS := Lib.hid hG; have HEL := Lib.hid hL; have HROW := Lib.hid hrow; have HN := Lib.hid hn
    have HB0 := Lib.hid ht1; have HT0 := Lib.hid ht2
    have HK2 := Lib.hid k2
    have hps := path_size lp true
    have hlen := (hG.2.len hl).1
    rw [if_pos rfl] at hps
    have hP : (pathS lp true).size ≤ 256 := by omega
    have HP := Lib.hid hP
    clear h hn hl hf ih hG hL hrow hm ht1 ht2 k2 hdi hps hlen hP
    unfold treeV
    generalize hp0 : pathS lp true = P0 at *
    have HP0 := Lib.hid hp0
    clear hp0
    go_enter Tryz.func62, Tryz.ntmps62
    have c0 := cell_blk_some HT0.out (i := 0) rfl
    have k2 := (World.cell?_of_block (w := w) (a := ⟨g, i * 3 + 2, none⟩) (HB0.out.block g hg)).trans HK2.out
    go_wp2_with fail
    generalize w.alloc (.cells #[.slice (some ⟨g, 0, none⟩) cap c] 30) = w0 at *
    clear k2 c0
    go_loopw [7, 17] (fun uv idx wy => ∃ (k : Nat) (LL : List (List ByteArray)), k ≤ L.length ∧ idx = .int .i64 k ∧ PartIs M i ((L.take k).map fun x => x.1) LL ∧ wy.ownsRow w0.heap.size 9 1 uv LL.length (txtAt M lp LL) ∧ Below w0.heap.size w0 wy) (fun _ idx _ => L.length - (RowKit.intOf idx).toNat)
    case atStart => exact ⟨0, [], by omega, rfl, .nil, ⟨rfl, .inl ⟨rfl, rfl⟩⟩, Below.refl _ _⟩
    case round =>
      obtain ⟨k, LL, hk, rfl, hpt, hown, hby⟩ := hrel
      have HPT := Lib.hid hpt; have HOW := Lib.hid hown; have HBY := Lib.hid hby
      have HBW := Lib.hid (below_call HB0.out hby (Nat.le_refl _))
      have hsz := hby.size
      have hk2 : ∀ wz, Below w.heap.size w wz → wz.cell? ⟨g, i * 3 + 2, none⟩ = some (.slice ea L.length ec) := fun wz hb => (World.cell?_of_block (w := w) (a := ⟨g, i * 3 + 2, none⟩) (hb.block g hg)).trans HK2.out
      have hc0 : ∀ wz, Below w0.heap.size w0 wz → wz.cell? ⟨w.heap.size, 0, none⟩ = some (.slice (some ⟨g, 0, none⟩) cap c) := fun wz hb => cell_blk_some ((hb.block _ (blk_lt HT0.out)).trans HT0.out) rfl
      have HC0 := Lib.hid hc0
      have HLE := Lib.hid (hpt.le HGS.out.1 hcap HL.out)
      by_cases hkl : k < L.length
      · obtain ⟨x, hx⟩ : ∃ x, L[k]? = some x := ⟨_, List.getElem?_eq_getElem hkl⟩
        obtain ⟨s, j⟩ := x
        obtain ⟨ge, oe, rfl, -, hge, hcell⟩ := HROW.out (by omega)
        obtain ⟨x0, x1⟩ := hcell k (s, j) hx
        have hen : entN M i s = some j := by rw [← refM_en]; exact (HEL.out.2 s j).1 (List.mem_of_getElem? hx)
        have hgj : goE (entN M) 2 (lp ++ [s]) = some j := goE_snoc.2 ⟨i, HL.out, hen⟩
        obtain ⟨ndj, hmj⟩ := Option.isSome_iff_exists.1 (HGS.out.1.ok.ent i s j hen)
        have hjc := (HGS.out.1.ok.low j ndj hmj).2
        have j0 : (0 : Int) ≤ (j : Int) := by omega
        have j1 : (j : Int) < (cap : Int) := by omega
        have hnam := HGS.out.2.nam i s j hen
        have hs14 := (nameE_len hnam).1
        have hss := Lib.size_eq s
        have hs1 : s.size ≤ 14 := by omega
        have hnew : s ∉ (L.take k).map fun x => x.1 := fun hmem => by
          have hnd := entL_nodup HEL.out
          obtain ⟨y, hy, hys⟩ := List.mem_map.1 hmem
          obtain ⟨q, hq, hqe⟩ := List.mem_iff_getElem.1 hy
          rw [List.length_take] at hq
          have h1 : (L.map fun x => x.1)[q]? = some s := by
            rw [List.getElem?_map]
            have : L[q]? = some y := by
              rw [List.getElem_take] at hqe
              rw [List.getElem?_eq_getElem (by omega), hqe]
            rw [this]; simp [hys]
          have h2 : (L.map fun x => x.1)[k]? = some s := by rw [List.getElem?_map, hx]; rfl
          have := (List.getElem?_inj (by rw [List.length_map]; omega) hnd).1 (h1.trans h2.symm)
          omega
        have htk : (L.take (k + 1)).map (fun x => x.1) = (L.take k).map (fun x => x.1) ++ [s] := by rw [take_succ' hx, List.map_append]; rfl
        have hpa := path_add lp s
        have hpd := path_dir (lp ++ [s])
        rw [HP0.out] at hpa
        have hpz : (pathS (lp ++ [s]) false).size ≤ 270 := by rw [← hpa]; rw [ByteArray.size_append]; have := HP.out; omega
        have g1 : ¬ 9223372036854775807 < P0.size + s.size := by have := HP.out; omega
        have g2 : ¬ 9223372036854775807 < (pathS (lp ++ [s]) false).size + (⟨#[47]⟩ : ByteArray).size := by have : (⟨#[47]⟩ : ByteArray).size = 1 := rfl; omega
        have g3 : ¬ 9223372036854775807 < (pathS (lp ++ [s]) false).size + 1 := by omega
        have hx0 : ∀ wz, Below w.heap.size w wz → wz.cell? ⟨ge, oe + k * 2, none⟩ = some (.string s) := fun wz hb => (World.cell?_of_block (w := w) (a := ⟨ge, oe + k * 2, none⟩) (hb.block ge hge)).trans x0
        have hx1 : ∀ wz, Below w.heap.size w wz → wz.cell? ⟨ge, oe + k * 2 + 1, none⟩ = some (.int .i64 j) := fun wz hb => (World.cell?_of_block (w := w) (a := ⟨ge, oe + k * 2 + 1, none⟩) (hb.block ge hge)).trans x1
        have f0 := hx0 wr HBW.out; have f1 := hx1 wr HBW.out; have f2 := hk2 wr HBW.out; have f3 := hc0 wr HBY.out
        have k0 : (0 : Int) ≤ (k : Int) := by omega
        have k1 : (k : Int) < (L.length : Int) := by omega
        have hkj : ∀ wz, Below w.heap.size w wz → wz.cell? ⟨g, j * 3, none⟩ = some (.int .i64 (refM M j).kd) := fun wz hb => (HN.out j hjc).elim fun _ a => (World.cell?_of_block (w := w) (a := ⟨g, j * 3, none⟩) (hb.block g hg)).trans a.1
        have HKJ := Lib.hid hkj
        obtain ⟨wE, hwE⟩ : ∃ wE, wE = wr.alloc (.cells #[.string s, .int .i64 j] 95 (0, 0)) := ⟨_, rfl⟩
        have hbE : Below wr.heap.size wr wE := by rw [hwE]; exact (Below.refl _ wr).alloc (Nat.le_refl _) _
        have heE : wE.heap[wr.heap.size]? = some (.cells #[.string s, .int .i64 j] 95 (0, 0)) := by rw [hwE]; exact blk_new rfl
        have HSE : Hid (wE.heap.size = wr.heap.size + 1) := Lib.hid (by rw [hwE]; simp)
        have HBE := Lib.hid hbE; have HEE := Lib.hid heE; have HWE := Lib.hid hwE
        have HBEW := Lib.hid (below_call HBW.out hbE (Nat.le_refl _)); have HBEY := Lib.hid (below_call HBY.out hbE (Nat.le_refl _))
        have e0 := cell_blk_some heE (i := 0) rfl
        have e1 := cell_blk_some heE (i := 1) rfl
        have e2 := hc0 wE HBEY.out
        have e3 := hkj wE HBEW.out
        have HHK2 := Lib.hid hk2
        have HGJ := Lib.hid hgj; have HEN := Lib.hid hen; have HNEW := Lib.hid hnew; have HTK := Lib.hid htk; have HMJ := Lib.hid hmj
        rw [hwE] at e0 e1 e2 e3
        clear hx hcell x0 x1 hen hgj hmj hjc hnam hs14 hss hnew htk hx0 hx1 hkj hbE heE hwE hc0 hk2 hpt hown hby
        cases hdj : isDir M j with
        | false =>
          have hpat : pathAt M (lp ++ [s]) = pathS (lp ++ [s]) false := by rw [pathAt_of HGJ.out, hdj]
          have HPA2 := Lib.hid (HPT.out.file HNEW.out HEN.out hdj)
          have hq := (refM_file hdj).2
          generalize (refM M j).kd = kj at *
          generalize hpf : pathS (lp ++ [s]) false = pf at *
          have HOA : Hid ((wE.alloc (.cells #[.string pf] 9 (0, 0))).ownsRow w0.heap.size 9 1 u7 LL.length (txtAt M lp LL)) := Lib.hid (own_frame HOW.out (S := fun _ => False) ((Fr.below HBE.out).alloc _) fun _ _ => id)
          have HSX := Lib.hid (srcSt wE pf)
          rw [HSE.out] at HSX
          have hLE := Nat.le_trans hsz HBE.out.size
          have HHS : Hid (w0.heap.size ≤ (wE.alloc (.cells #[.string pf] 9 (0, 0))).heap.size) := Lib.hid (Nat.le_trans hLE ((Fr.refl (fun _ => False) wE).alloc (.cells #[.string pf] 9 (0, 0))).size)
          rw [HWE.out] at HOA HSX HHS
          clear hdj hpf
          go_wp2_with (refine wpList_append_g (by rfl) (.tmp 56) (.tmp 61) (by rfl) elStrR (by rfl) HOA.out (by rfl) HSX.out (by have := HLE.out; unfold maxLen; omega) (by have := HLE.out; omega) HHS.out ?_)
          have HPAT : Hid (txtAt M lp [[s]] = [Value.string pf]) := Lib.hid (by unfold txtAt; rw [List.map_cons, List.map_nil, hpat])
          rintro v2 w2 h2 h3 -
          have h4 : Fr (fun y => u7.ownBlock = some y) wr w2 := (((Fr.refl _ wr).alloc _).alloc _).trans h3
          have HB2 := Lib.hid (HBY.out.trans (h4.toBelow hsz fun y hy => (World.ownsRow.lt HOW.out y hy).1))
          have HO2 : Hid (w2.ownsRow w0.heap.size 9 1 v2 (LL ++ [[s]]).length (txtAt M lp (LL ++ [[s]]))) := Lib.hid (by rw [List.length_append, txt_app, HPAT.out]; exact h2)
          clear h2 h3 h4 HOA HSX e0 e1 e2 e3 f0 f1 f2 f3 hpa hpat
          go_wp2_with fail
          go_roundw
          case rel => exact ⟨k + 1, LL ++ [[s]], by omega, by go_num, by rw [HTK.out]; exact HPA2.out, HO2.out, HB2.out⟩
          case measure => simp only [RowKit.intOf]; omega
        | true =>
          have hpat : pathAt M (lp ++ [s]) = pathS (lp ++ [s]) true := by rw [pathAt_of HGJ.out, hdj]
          rw [refM_dir hdj] at e3
          have HDJ := Lib.hid hdj
          generalize hpf : pathS (lp ++ [s]) false = pf at *
          generalize hpdd : pathS (lp ++ [s]) true = pd at *
          have HPDD := Lib.hid hpdd
          have HPAT : Hid (txtAt M lp [[s]] = [Value.string pd]) := Lib.hid (by unfold txtAt; rw [List.map_cons, List.map_nil, hpat])
          have HOA : Hid ((wE.alloc (.cells #[.string pd] 9 (0, 0))).ownsRow w0.heap.size 9 1 u7 LL.length (txtAt M lp LL)) := Lib.hid (own_frame HOW.out (S := fun _ => False) ((Fr.below HBE.out).alloc _) fun _ _ => id)
          have HSX := Lib.hid (srcSt wE pd)
          rw [HSE.out] at HSX
          have hLE := Nat.le_trans hsz HBE.out.size
          have HHS : Hid (w0.heap.size ≤ (wE.alloc (.cells #[.string pd] 9 (0, 0))).heap.size) := Lib.hid (Nat.le_trans hLE ((Fr.refl (fun _ => False) wE).alloc (.cells #[.string pd] 9 (0, 0))).size)
          have HEN2 : Hid ((wE.alloc (.cells #[.string pd] 9 (0, 0))).heap[wr.heap.size]? = some (.cells #[.string s, .int .i64 j] 95 (0, 0))) := Lib.hid ((blk_old_eq (by rw [HSE.out]; omega)).trans HEE.out)
          rw [HWE.out] at HOA HSX HHS HEN2
          clear hdj hpf hpdd hpat
          go_wp2_with (refine wpList_append_g (by rfl) (.tmp 37) (.tmp 43) (by rfl) elStrR (by rfl) HOA.out (by rfl) HSX.out (by have := HLE.out; unfold maxLen; omega) (by have := HLE.out; omega) HHS.out ?_)
          rintro v2 w2 h2 h3 -
          have h4 : Fr (fun y => u7.ownBlock = some y) wr w2 := (((Fr.refl _ wr).alloc _).alloc _).trans h3
          have hb2 := HBY.out.trans (h4.toBelow hsz fun y hy => (World.ownsRow.lt HOW.out y hy).1)
          have hb2w := below_call HB0.out hb2 (Nat.le_refl _)
          have he2 := (h3.block wr.heap.size (blk_lt HEN2.out) (fun hy => by have := (World.ownsRow.lt HOW.out _ hy).2; omega)).trans HEN2.out
          have HB2 := Lib.hid hb2
          have HO2 : Hid (w2.ownsRow w0.heap.size 9 1 v2 (LL ++ [[s]]).length (txtAt M lp (LL ++ [[s]]))) := Lib.hid (by rw [List.length_append, txt_app, HPAT.out]; exact h2)
          have HC := Lib.hid (IH.out (lp ++ [s]) j w2 HGJ.out HDJ.out (by have := HFU.out; rw [List.length_append, List.length_singleton]; omega) (H.out.below hb2w))
          rw [HPDD.out] at HC
          unfold treeV at HC
          have y0 := cell_blk_some he2 (i := 0) rfl
          have y1 := cell_blk_some he2 (i := 1) rfl
          have y2 := HC0.out w2 hb2
          have hsz2 := hb2.size
          clear h2 h3 h4 hb2 hb2w he2 HOA HSX HHS HEN2 e0 e1 e2 e3 f0 f1 f2 f3
          go_wp2_with fail
          refine HC.out.mono ?_
          rintro e w3 ⟨u3, LJ, rfl, hbj, hown3, hb3⟩
          have HPA2 := Lib.hid (HPT.out.dir HNEW.out HEN.out hbj)
          have HO3 : Hid (w3.ownsRow w0.heap.size 9 1 v2 (LL ++ [[s]]).length (txtAt M lp (LL ++ [[s]]))) := Lib.hid (own_frame HO2.out (S := fun _ => False) (Fr.below hb3) fun _ _ => id)
          have HB3 := Lib.hid (below_call HB2.out hb3 (Nat.le_refl _))
          have HSJ := Lib.hid (SrcG.of_own hown3 (fun u hu => by
            obtain ⟨l, -, rfl⟩ := List.mem_map.1 hu
            rfl))
          have HLE3 := Lib.hid (HPA2.out.le HGS.out.1 hcap HL.out)
          obtain ⟨ua, uc, rfl⟩ := own_shape hown3
          have hsz3 := Nat.le_trans hsz2 hb3.size
          clear hbj hown3 hb3 HC y0 y1 y2 HO2
          go_wp2_with (refine wpList_append_g (by rfl) (.tmp 45) (.tmp 54) (by rfl) elStrR (by rfl) HO3.out (by rfl) HSJ.out (by have := HLE3.out; rw [List.length_append, List.length_map] at this; unfold maxLen; omega) (by have := HLE3.out; rw [List.length_append, List.length_map] at this; omega) hsz3 ?_)
          rintro v4 w4 h2 h3 -
          have HB4 := Lib.hid (HB3.out.trans (h3.toBelow hsz3 fun y hy => (World.ownsRow.lt HO3.out y hy).1))
          have HO4 : Hid (w4.ownsRow w0.heap.size 9 1 v4 ((LL ++ [[s]]) ++ LJ.map (s :: ·)).length (txtAt M lp ((LL ++ [[s]]) ++ LJ.map (s :: ·)))) := Lib.hid (by rw [List.length_append, List.length_append, List.length_map, txt_app, txt_cons]; exact h2)
          clear h2 h3 HO3 HSJ
          go_wp2_with fail
          go_roundw
          case rel => exact ⟨k + 1, _, by omega, by go_num, by rw [HTK.out]; exact HPA2.out, HO4.out, HB4.out⟩
          case measure => simp only [RowKit.intOf]; omega
      · obtain rfl : k = L.length := by omega
        rw [List.take_length] at HPT
        have HDN := Lib.hid (HPT.out.done fun s hs => by
          obtain ⟨j, hj⟩ := Option.isSome_iff_exists.1 hs
          rw [← refM_en] at hj
          exact List.mem_map.2 ⟨(s, j), (HEL.out.2 s j).2 hj, rfl⟩)
        clear hk2 hc0 hpt hown hby
        go_wp2_with fail
        go_ret
        exact ⟨_, LL, rfl, HDN.out, own_mono HOW.out HB0.out.size, HBW.out⟩
end
end Go.Proofs.YtoofcnehoffllaaGreat
