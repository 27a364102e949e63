/- Walk of the reference's Make. -/
import Derived.Test.YtoofcnehoffllaaGreatR10
namespace Go.Proofs.YtoofcnehoffllaaGreat
open Go.RowKit

section
variable {M : TM} {cap : Nat}
theorem make_bad {s : ByteArray} {dir : Bool} {c : Int} (h : freshC M s dir = c) (hc : c ≠ 0) : makeN M cap s dir = (0, c, M) := by
  unfold makeN
  rw [h, if_pos hc]
theorem make_none {s : ByteArray} {dir : Bool} {p : Nat} (h : freshC M s dir = 0) (hl : leadN M 2 (parN s) = .inl p) (hn : leastN M cap cap 2 = none) : makeN M cap s dir = (0, 23, M) := by
  unfold makeN
  rw [h, if_neg (by decide), hl]
  dsimp only
  rw [hn]
theorem make_some {s : ByteArray} {dir : Bool} {p i : Nat} (h : freshC M s dir = 0) (hl : leadN M 2 (parN s) = .inl p) (hn : leastN M cap cap 2 = some i) : makeN M cap s dir = ((i : Int), 0, addM M i (freshNd dir) p (parL s)) := by
  unfold makeN
  rw [h, if_neg (by decide), hl]
  dsimp only
  rw [hn]
theorem fresh_pl {s : ByteArray} {dir : Bool} {p : Nat} (h0 : placeC M s = 0) (hl : leadN M 2 (parN s) = .inl p) : freshC M s dir = if (entN M p (parL s)).isSome then 17 else if splitD s && !dir then 21 else if dir && decide (255 ≤ longN (parN s ++ [parL s])) then 36 else 0 := by
  unfold freshC
  rw [h0, if_neg (by decide), hl]
theorem fresh_no {s : ByteArray} {dir : Bool} (h0 : placeC M s ≠ 0) : freshC M s dir = placeC M s := by
  unfold freshC
  rw [if_pos h0]
theorem place_par {s : ByteArray} (h0 : placeC M s = 0) : parE s = 0 := by
  unfold placeC at h0
  split at h0
  · rename_i h; exact absurd h0 h
  · rename_i h
    exact Classical.byContradiction h
theorem refM_none {i : Nat} (h : M i = none) : refM M i = ⟨0, [], fun _ => none⟩ := by
  unfold refM
  rw [h]
theorem refM_zero {i : Nat} : (refM M i).kd = 0 ↔ M i = none := by
  rw [refM_kd]
  constructor
  · intro h
    split at h
    · cases h
    · split at h
      · cases h
      · rename_i h2
        simpa using h2
  · intro h
    have : isDir M i = false := by unfold isDir; rw [h]
    rw [this, h]; rfl
theorem refM_add {p i : Nat} {s : ByteArray} {dir : Bool} (hp : isDir M p = true) (hi : M i = none) :
    setK (setK (refM M) i ⟨if dir then 2 else 1, [], fun _ => none⟩) p ⟨(setK (refM M) i ⟨if dir then 2 else 1, [], fun _ => none⟩ p).kd, (setK (refM M) i ⟨if dir then 2 else 1, [], fun _ => none⟩ p).dt, updE (setK (refM M) i ⟨if dir then 2 else 1, [], fun _ => none⟩ p).en s (some i)⟩ = refM (addM M i (freshNd dir) p s) := by
  obtain ⟨nd, f, hm, hf⟩ := isDir_there hp
  have hip : p ≠ i := fun e => by rw [e, hi] at hm; cases hm
  have h1 : setK (refM M) i ⟨if dir then 2 else 1, [], fun _ => none⟩ p = refM M p := if_neg hip
  rw [h1]
  funext x
  by_cases e1 : x = p
  · subst e1
    have h2 : setK (setK (refM M) i ⟨if dir then 2 else 1, [], fun _ => none⟩) x ⟨(refM M x).kd, (refM M x).dt, updE (refM M x).en s (some i)⟩ x = ⟨(refM M x).kd, (refM M x).dt, updE (refM M x).en s (some i)⟩ := if_pos rfl
    rw [h2]
    have h3 := addM_p (M := M) (nd := freshNd dir) (s := s) hip hm
    refine RN.eq ?_ ?_ fun t => ?_
    · show (refM M x).kd = (refM _ x).kd
      unfold refM
      rw [h3, hm]
      show (if nd.ents.isSome then _ else _) = if (nd.ents.map _).isSome then _ else _
      rw [Option.isSome_map]
    · show (refM M x).dt = (refM _ x).dt
      unfold refM
      rw [h3, hm]
    · show updE (refM M x).en s (some i) t = (refM _ x).en t
      unfold refM
      rw [h3, hm]
      dsimp only
      rw [hf]
      unfold updE
      by_cases e2 : t = s
      · rw [if_pos e2]
        show some i = (some fun z => if z = s then some i else f z).bind fun f => f t
        show some i = if t = s then some i else f t
        rw [if_pos e2]
      · rw [if_neg e2]
        show f t = if t = s then some i else f t
        rw [if_neg e2]
  · have h2 : setK (setK (refM M) i ⟨if dir then 2 else 1, [], fun _ => none⟩) p ⟨(refM M p).kd, (refM M p).dt, updE (refM M p).en s (some i)⟩ x = setK (refM M) i ⟨if dir then 2 else 1, [], fun _ => none⟩ x := if_neg e1
    rw [h2]
    by_cases e2 : x = i
    · subst e2
      have h4 : setK (refM M) x ⟨if dir then 2 else 1, [], fun _ => none⟩ x = ⟨if dir then 2 else 1, [], fun _ => none⟩ := if_pos rfl
      rw [h4]
      unfold refM
      rw [addM_i]
      cases dir <;> rfl
    · have h4 : setK (refM M) i ⟨if dir then 2 else 1, [], fun _ => none⟩ x = refM M x := if_neg e2
      rw [h4]
      have h5 : addM M i (freshNd dir) p s x = M x := addM_o e2 e1
      unfold refM
      rw [h5]
/-- The kind's number. -/
def KdOf (kd : Int) (dir : Bool) : Prop := kd = if dir then 2 else 1
theorem refM_add' {p i : Nat} {s : ByteArray} {dir : Bool} {kd : Int} (hk : KdOf kd dir) (hp : isDir M p = true) (hi : M i = none) :
    setK (setK (refM M) i ⟨kd, [], fun _ => none⟩) p ⟨(setK (refM M) i ⟨kd, [], fun _ => none⟩ p).kd, (setK (refM M) i ⟨kd, [], fun _ => none⟩ p).dt, updE (setK (refM M) i ⟨kd, [], fun _ => none⟩ p).en s (some i)⟩ = refM (addM M i (freshNd dir) p s) := by
  have hk : kd = if dir then 2 else 1 := hk
  subst hk
  exact refM_add hp hi
end
section
variable {D : Nat → Prop} {w : World} {v : Value} {cap : Nat} {M : TM}
set_option maxHeartbeats 8000000 in
set_option maxRecDepth 100000 in
theorem refMake_any (h : RefIs D w v cap (refM M)) (hG : Good M cap) (s : ByteArray) (hs : s.size ≤ 1000000) (dir : Bool) :
    Calls Tryz.prog 25 #[treeV v, .string s, .int .i64 (if dir then 2 else 1)] w fun e w' => ∃ v', e = .returned (.tuple #[treeV v', .int .i64 (makeN M cap s dir).1, .int .i64 (makeN M cap s dir).2.1]) ∧ RefIs (fun b => D b ∨ w.heap.size ≤ b) w' v' cap (refM (makeN M cap s dir).2.2) ∧ Below w.heap.size w w' := by
  have hcap := h.1
  obtain ⟨g, c, hvv, hD, hg, hn⟩ := h.at_
  subst hvv
  have H := Lib.hid h.two; have HG := Lib.hid hG; have HS := Lib.hid hs
  have HF0 := Lib.hid (FrT.start w (.slice (some ⟨g, 0, none⟩) cap c))
  have HP := Lib.hid (refPlace_any (h.two.below HF0.out.bel) hG.1.ok s hs)
  obtain ⟨kd, hkd⟩ : ∃ kd : Int, kd = if dir then 2 else 1 := ⟨_, rfl⟩
  have hk1 : (kd == 1) = !dir := by rw [hkd]; cases dir <;> rfl
  have hk2 : (kd == 2) = dir := by rw [hkd]; cases dir <;> rfl
  rw [← hkd]
  have HKD : Hid (KdOf kd dir) := Lib.hid hkd
  clear h hn hG hs hkd
  unfold PlacePost at HP
  unfold treeV at HP ⊢
  go_enter Tryz.func25, Tryz.ntmps25
  go_wp2_with fail
  refine HP.out.mono ?_
  rintro e w1 ⟨p, la, ofb, rfl, hpl, hb1⟩
  have HF1 := Lib.hid (HF0.out.below hb1)
  have HR1 := Lib.hid (H.out.below HF1.out.bel)
  have c0 := HF1.out.c0; have c1 := HF1.out.c1; have f1 := HF1.out.f1
  by_cases hz : placeC M s = 0
  · obtain ⟨hl, hpd, rfl, rfl⟩ := hpl hz
    rw [hz]
    obtain ⟨ndp, fp, hmp, -⟩ := isDir_there hpd
    have hpc := (HG.out.1.ok.low p ndp hmp).2
    have HE := Lib.hid (entry_any HR1.out hpc (parL s))
    have HFR : Hid (freshC M s dir = if (entN M p (parL s)).isSome then 17 else if splitD s && !dir then 21 else if dir && decide (255 ≤ longN (parN s ++ [parL s])) then 36 else 0) := Lib.hid (fresh_pl hz hl)
    have HL := Lib.hid hl; have HPD := Lib.hid hpd; have HPC := Lib.hid hpc; have HZ := Lib.hid hz
    unfold treeV at HE
    clear hb1 hpl hl hpd hmp hpc HP hz
    cases hen : entN M p (parL s) with
    | some j =>
      have hj := HG.out.1.ok.ent p (parL s) j hen
      obtain ⟨ndj, hmj⟩ := Option.isSome_iff_exists.1 hj
      have hj2 := (HG.out.1.ok.low j ndj hmj).1
      have hjz : ((j : Int) != 0) = true := by simp; omega
      have HMK : Hid (makeN M cap s dir = (0, 17, M)) := Lib.hid (make_bad (by rw [HFR.out, hen]; rfl) (by decide))
      have he : entI (refM M p).en (parL s) = j := by unfold entI; rw [refM_en, hen]; rfl
      rw [he] at HE
      clear hj hmj hj2 he hen ndj HFR
      go_wp2_with fail
      refine HE.out.mono ?_
      rintro e w2 ⟨rfl, hb2⟩
      have HF2 := Lib.hid (HF1.out.below hb2)
      have HR2 := Lib.hid (HR1.out.below hb2)
      have d0 := HF2.out.c0; have d1 := HF2.out.c1; have g1 := HF2.out.f1
      clear hb2 c0 c1 f1 HE
      go_wp2_with fail
      obtain ⟨r1, r2, r3⟩ := HF2.out.ret HR2.out
      refine bodyPost_ret (results_row_tmp2 rfl _ _ (w.heap.size + 1) _ _ _ _ rfl r1 Tryz.underlying30 rfl (by kernel_rfl)) rfl ?_
      rw [HMK.out]
      exact ⟨_, rfl, r2, r3⟩
    | none =>
      have he : entI (refM M p).en (parL s) = 0 := by unfold entI; rw [refM_en, hen]; rfl
      rw [he] at HE
      rw [hen] at HFR
      have HFR2 : Hid (freshC M s dir = if splitD s && !dir then 21 else if dir && decide (255 ≤ longN (parN s ++ [parL s])) then 36 else 0) := Lib.hid HFR.out
      have HEN := Lib.hid hen
      clear he hen HFR
      go_wp2_with fail
      refine HE.out.mono ?_
      rintro e w2 ⟨rfl, hb2⟩
      have HF2 := Lib.hid (HF1.out.below hb2)
      have HR2 := Lib.hid (HR1.out.below hb2)
      have d0 := HF2.out.c0; have d1 := HF2.out.c1; have g1 := HF2.out.f1
      have HSP := Lib.hid (refSplit_any s HS.out w2)
      unfold SplitPost at HSP
      obtain ⟨hp1, hp2⟩ := par_split (place_par HZ.out)
      rw [hp2] at HSP
      generalize hsn : parN s ++ [parL s] = sn at *
      have HSN := Lib.hid hsn
      have HP1 := Lib.hid hp1; have HP2 := Lib.hid hp2
      clear hsn
      clear hb2 c0 c1 f1 HE HF1 HR1 hp1 hp2
      by_cases hof : (splitD s && !dir) = true
      · have HMK : Hid (makeN M cap s dir = (0, 21, M)) := Lib.hid (make_bad (by rw [HFR2.out, if_pos hof]) (by decide))
        rw [Bool.and_eq_true] at hof
        obtain ⟨h1, h2⟩ := hof
        rw [h2] at hk1
        have h3 : dir = false := by simpa using h2
        rw [h1]
        clear h1 h2 hk2 HSP HFR2
        go_wp2_with fail
        obtain ⟨r1, r2, r3⟩ := HF2.out.ret HR2.out
        refine bodyPost_ret (results_row_tmp2 rfl _ _ (w.heap.size + 1) _ _ _ _ rfl r1 Tryz.underlying30 rfl (by kernel_rfl)) rfl ?_
        rw [HMK.out]
        exact ⟨_, rfl, r2, r3⟩
      · have hof : (splitD s && !dir) = false := by simpa using hof
        have HFR3 : Hid (freshC M s dir = if dir && decide (255 ≤ longN (sn)) then 36 else 0) := Lib.hid (by rw [HFR2.out, hof]; rfl)
        have hbo : (splitD s = false) ∨ (splitD s = true ∧ dir = true) := by
          cases h1 : splitD s
          · exact .inl rfl
          · rw [h1] at hof; exact .inr ⟨rfl, by simpa using hof⟩
        have HSZ : Hid (∀ x ∈ sn, x.size ≤ 1000000) := Lib.hid (by
          intro x hx
          have := splitN_size s x (by rw [HP2.out]; exact hx)
          have := HS.out
          omega)
        have HLN : Hid ((sn).length ≤ 1000) := Lib.hid (by rw [← HP2.out]; exact splitN_count s)
        have HLB : Hid (0 ≤ longN (sn) ∧ longN (sn) ≤ 2000000000) := Lib.hid (by
          have := longN_bd (sn) HSZ.out
          have := HLN.out
          omega)
        clear HFR2 hof
        rw [HP1.out] at HSP
        by_cases hbig : dir = true ∧ 255 ≤ longN (sn)
        · obtain ⟨rfl, hbig⟩ := hbig
          have HMK : Hid (makeN M cap s true = (0, 36, M)) := Lib.hid (make_bad (by rw [HFR3.out, decide_eq_true hbig]; rfl) (by decide))
          have hk1 : (kd == 1) = false := hk1
          have hcmp : decide (255 < longN (sn) + 1) = true := dec_true (by omega)
          have hw : IntKind.i64.wrap (longN (sn) + 1) = longN (sn) + 1 := IntWalk.i64_in _ (by have := HLB.out; omega)
          clear hbo HFR3
          cases hsd : splitD s
          all_goals
            rw [hsd] at HSP
            clear hsd
            go_wp2_with fail
            refine HSP.out.mono ?_
            rintro e w3 ⟨u3, rfl, hst, hb3⟩
            have HF3 := Lib.hid (HF2.out.below hb3)
            have HR3 := Lib.hid (HR2.out.below hb3)
            have c0 := HF3.out.c0; have c1 := HF3.out.c1; have f1 := HF3.out.f1
            have HLO := Lib.hid (refLong_any hst HLN.out HSZ.out)
            obtain ⟨ua, uc, rfl⟩ := hst.shape
            clear hst hb3 d0 d1 g1 HSP
            go_wp2_with fail
            refine HLO.out.mono ?_
            rintro e w4 ⟨rfl, rfl⟩
            go_wp2_with fail
            obtain ⟨r1, r2, r3⟩ := HF3.out.ret HR3.out
            refine bodyPost_ret (results_row_tmp2 rfl _ _ (w.heap.size + 1) _ _ _ _ rfl r1 Tryz.underlying30 rfl (by kernel_rfl)) rfl ?_
            rw [HMK.out]
            exact ⟨_, rfl, r2, r3⟩
        · have hfr : freshC M s dir = 0 := by
            rw [HFR3.out]
            cases dir with
            | false => rfl
            | true => rw [decide_eq_false (fun h => hbig ⟨rfl, h⟩)]; rfl
          have HFZ := Lib.hid hfr
          clear hfr HFR3
          have HC2 : Hid (2 ≤ cap) := Lib.hid (by
            obtain ⟨nd, f, hm, -⟩ := isDir_there HPD.out
            have := HG.out.1.ok.low p nd hm
            omega)
          cases dir
          focus
            have hk1 : (kd == 1) = true := hk1
            have hsd : splitD s = false := by
              rcases hbo with h | ⟨-, h⟩
              · exact h
              · cases h
            rw [hsd] at HSP ⊢
            clear hbo hsd hbig
            go_wp2_with fail
            refine HSP.out.mono ?_
            rintro e w3 ⟨u3, rfl, hst, hb3⟩
            have HF3 := Lib.hid (HF2.out.below hb3)
            have HR3 := Lib.hid (HR2.out.below hb3)
            have c0 := HF3.out.c0; have c1 := HF3.out.c1; have f1 := HF3.out.f1
            obtain ⟨ua, uc, rfl⟩ := hst.shape
            clear hst hb3 d0 d1 g1 HSP hk1
            go_wp2_with fail
          rotate_left
          focus
            have hk1 : (kd == 1) = false := hk1
            have hlt : longN (sn) < 255 := Classical.byContradiction fun h => hbig ⟨rfl, by omega⟩
            have hcmp : decide (255 < longN (sn) + 1) = false := dec_false (by omega)
            have hw : IntKind.i64.wrap (longN (sn) + 1) = longN (sn) + 1 := IntWalk.i64_in _ (by have := HLB.out; omega)
            clear hbo hbig hlt hof
            cases hsd : splitD s
            all_goals
              rw [hsd] at HSP
              clear hsd
              go_wp2_with fail
              refine HSP.out.mono ?_
              rintro e w3 ⟨u3, rfl, hst, hb3⟩
              have HF3 := Lib.hid (HF2.out.below hb3)
              have HR3 := Lib.hid (HR2.out.below hb3)
              have c0 := HF3.out.c0; have c1 := HF3.out.c1; have f1 := HF3.out.f1
              have HLO := Lib.hid (refLong_any hst HLN.out HSZ.out)
              obtain ⟨ua, uc, rfl⟩ := hst.shape
              clear hst hb3 d0 d1 g1 HSP
              go_wp2_with fail
              refine HLO.out.mono ?_
              rintro e w4 ⟨rfl, rfl⟩
              clear HLO
              go_wp2_with fail
          all_goals
            obtain ⟨g', c', hv', -, hg', hkd'⟩ := HR3.out.kds
            obtain ⟨hv1, -, -⟩ := Value.slice.inj hv'
            have hgg : g = g' := by injection hv1 with hv1; injection hv1
            subst hgg
            have HKC := Lib.hid hkd'
            clear hv' hv1 hg' hkd'
            go_loop [16] (fun iv => ∃ i : Nat, 2 ≤ i ∧ i ≤ cap ∧ iv = .int .i64 i ∧ ∀ j, 2 ≤ j → j < i → (M j).isSome = true) (fun iv => cap - (RowKit.intOf iv).toNat)
            case atStart => exact ⟨2, by omega, HC2.out, rfl, fun j h1 h2 => by omega⟩
            case round =>
              obtain ⟨i, hi2, hic, rfl, hall⟩ := hrel
              have HALL := Lib.hid hall
              clear hall
              by_cases hlt : i < cap
              · have k0 := HKC.out i hlt
                have i0 : (0 : Int) ≤ (i : Int) := by omega
                have i1 : (i : Int) < (cap : Int) := by omega
                by_cases hmi : M i = none
                · have hkz : (refM M i).kd = 0 := refM_zero.2 hmi
                  rw [hkz] at k0
                  have HMI := Lib.hid hmi
                  have HI := Lib.hid hlt; have HI2 := Lib.hid hi2
                  have HLE := Lib.hid (least_eq (M := M) cap 2 i HALL.out hi2 hlt hmi (by omega))
                  have HMK := Lib.hid (make_some (cap := cap) HFZ.out HL.out HLE.out)
                  have HW := Lib.hid (with_any HR3.out hlt (n := ⟨kd, [], fun _ => none⟩) (ev := .slice none 0 0) EntRow.nil)
                  unfold treeV nodeV at HW
                  have he : strOfNums [] = ⟨#[]⟩ := rfl
                  rw [he] at HW
                  clear hkz hmi hlt he hi2 hic HALL HLE
                  go_wp2_with fail
                  refine HW.out.mono ?_
                  rintro e w5 ⟨v5, rfl, hr5, hb5⟩
                  have HF5 := Lib.hid (HF3.out.below hb5)
                  have hr5' := hr5.next HF3.out
                  have hip : p ≠ i := fun e => by
                    obtain ⟨nd, f, hm, -⟩ := isDir_there HPD.out
                    rw [e, HMI.out] at hm; cases hm
                  have hK1 : setK (refM M) i ⟨kd, [], fun _ => none⟩ p = refM M p := if_neg hip
                  have HPU := Lib.hid (put_any hr5' HPC.out (parL s) i (by rw [hK1, refM_en]; exact HEN.out) (fun L hL => by
                    rw [hK1] at hL
                    have := few_names HG.out.1 hcap hL
                    omega))
                  unfold treeV at HPU
                  clear hb5 hr5 hr5' hip hK1 c0 c1 f1 k0 HW
                  go_wp2_with fail
                  refine HPU.out.mono ?_
                  rintro e w6 ⟨v6, rfl, hr6, hb6⟩
                  obtain ⟨-, g6, c6, rfl, -⟩ := id hr6
                  have HF6 := Lib.hid (HF5.out.below hb6)
                  have HR6 := Lib.hid (hr6.next HF5.out)
                  have d0 := HF6.out.c0; have d1 := HF6.out.c1; have g1 := HF6.out.f1
                  clear hr6 hb6 HPU
                  go_wp2_with fail
                  obtain ⟨r1, r2, r3⟩ := HF6.out.ret HR6.out
                  refine bodyPost_ret (results_row_tmp2 rfl _ _ (w.heap.size + 1) _ _ _ _ rfl r1 Tryz.underlying30 rfl (by kernel_rfl)) rfl ?_
                  rw [HMK.out]
                  rw [refM_add' HKD.out HPD.out HMI.out] at r2
                  exact ⟨_, rfl, r2, r3⟩
                · have hkz : ((refM M i).kd == 0) = false := by
                    rw [beq_eq_false_iff_ne]
                    exact fun h => hmi (refM_zero.1 h)
                  have HMI : Hid ((M i).isSome = true) := Lib.hid (by
                    cases hq : M i with
                    | none => exact absurd hq hmi
                    | some _ => rfl)
                  clear hmi
                  generalize (refM M i).kd = ki at *
                  go_wp2_with fail
                  go_round
                  case rel =>
                    refine ⟨i + 1, by omega, by omega, by go_num, fun j h1 h2 => ?_⟩
                    by_cases hji : j = i
                    · rw [hji]; exact HMI.out
                    · exact HALL.out j h1 (by omega)
                  case measure => simp only [RowKit.intOf]; omega
              · obtain rfl : i = cap := by omega
                have HMK := Lib.hid (make_none HFZ.out HL.out (least_full (M := M) i 2 HALL.out))
                clear HALL
                go_wp2_with fail
                obtain ⟨r1, r2, r3⟩ := HF3.out.ret HR3.out
                refine bodyPost_ret (results_row_tmp2 rfl _ _ (w.heap.size + 1) _ _ _ _ rfl r1 Tryz.underlying30 rfl (by kernel_rfl)) rfl ?_
                rw [HMK.out]
                exact ⟨_, rfl, r2, r3⟩
  · have HMK : Hid (makeN M cap s dir = (0, placeC M s, M)) := Lib.hid (make_bad (fresh_no hz) hz)
    have hq : (placeC M s != 0) = true := by simp [hz]
    clear hb1 hpl HP hz
    generalize placeC M s = pc at *
    go_wp2_with fail
    obtain ⟨r1, r2, r3⟩ := HF1.out.ret HR1.out
    refine bodyPost_ret (results_row_tmp2 rfl _ _ (w.heap.size + 1) _ _ _ _ rfl r1 Tryz.underlying30 rfl (by kernel_rfl)) rfl ?_
    rw [HMK.out]
    exact ⟨_, rfl, r2, r3⟩
end
end Go.Proofs.YtoofcnehoffllaaGreat
