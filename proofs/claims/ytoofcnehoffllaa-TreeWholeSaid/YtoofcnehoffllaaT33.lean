/- The document's example, plainly. -/
import Derived.Test.YtoofcnehoffllaaT32
namespace Go.Proofs.Ytoofcnehoffllaa
open Go.RowKit

def nD : ByteArray := ⟨#[100]⟩
def nF : ByteArray := ⟨#[102]⟩
def nG : ByteArray := ⟨#[103]⟩
def nH : ByteArray := ⟨#[104]⟩
theorem okD_ : nameE nD.data.toList = 0 := by decide
theorem okF_ : nameE nF.data.toList = 0 := by decide
theorem okG_ : nameE nG.data.toList = 0 := by decide
theorem okH_ : nameE nH.data.toList = 0 := by decide
theorem pD : (⟨#[47, 100]⟩ : ByteArray) = pathS [nD] false := rfl
theorem pG : (⟨#[47, 103]⟩ : ByteArray) = pathS [nG] false := rfl
theorem pH : (⟨#[47, 104]⟩ : ByteArray) = pathS [nH] false := rfl
theorem pDF : (⟨#[47, 100, 47, 102]⟩ : ByteArray) = pathS ([nD] ++ [nF]) false := rfl
theorem df_ok : NamesOk ([nD] ++ [nF]) ∧ (pathS ([nD] ++ [nF]) false).size ≤ 255 := by
  refine ⟨fun x hx => ?_, by decide⟩
  rcases List.mem_append.1 hx with hx | hx
  · rw [List.mem_singleton.1 hx]; exact okD_
  · rw [List.mem_singleton.1 hx]; exact okF_
theorem look_two {M : TM} {p i : Nat} (h1 : entN M 2 nD = some p) (h2 : entN M p nF = some i) : lookN M (pathS ([nD] ++ [nF]) false) = .inl i := by
  rw [look_path df_ok.1 (by simp) df_ok.2, (lead_goE _ 2 i).2 (goE_snoc.2 ⟨p, by rw [goE_cons, h1]; rfl, h2⟩)]
  rfl
theorem awake_plain : ∃ M1 M2 M3 M4 M5 M6 : TM, Good M1 11 ∧ Good M2 11 ∧ Good M3 11 ∧ Good M4 11 ∧ Good M5 11 ∧ Good M6 11 ∧
    makeN newM 11 ⟨#[47, 100]⟩ true = (3, 0, M1) ∧ makeN M1 11 ⟨#[47, 100, 47, 102]⟩ false = (4, 0, M2) ∧ linkN M2 ⟨#[47, 100, 47, 102]⟩ ⟨#[47, 103]⟩ = (0, M3) ∧ goneN M3 ⟨#[47, 100, 47, 102]⟩ false = (0, M4) ∧
    goneN M4 ⟨#[47, 100]⟩ true = (0, M5) ∧ makeN M5 11 ⟨#[47, 104]⟩ false = (3, 0, M6) ∧ ∀ l, WalkIs M6 l → l = [⟨#[47, 103]⟩, ⟨#[47, 104]⟩] := by
  have G0 : Good newM 11 := newM_full (by decide)
  have e0 := newM_ent
  -- Mkdir /d
  have m1 : makeN newM 11 ⟨#[47, 100]⟩ true = (3, 0, addM newM 3 (freshNd true) 2 nD) := by
    rw [pD]
    exact root_make G0 okD_ (e0 _ _) (least_eq 11 2 3 (fun y h1 h2 => by have e : y = 2 := (by omega); subst e; rfl) (by decide) (by decide) rfl (by decide))
  have G1 := G0.make ⟨#[47, 100]⟩ true
  rw [m1] at G1
  have x1 : entN (addM newM 3 (freshNd true) 2 nD) = putE (entN newM) 2 nD (some 3) := ent_add rfl rfl
  have d1 : isDir (addM newM 3 (freshNd true) 2 nD) 3 = true := rfl
  have s1 : ∀ x, (addM newM 3 (freshNd true) 2 nD x).isSome = if x = 3 then true else (newM x).isSome := fun x => some_add
  generalize addM newM 3 (freshNd true) 2 nD = M1 at *
  have r1 : isDir M1 2 = true := G1.1.ok.root
  -- Create /d/f
  obtain ⟨p1, p2, p3⟩ := par_path (d := false) df_ok.1 df_ok.2
  have psd := (path_split df_ok.1 (by simp) df_ok.2).2.2
  have ps0 := (path_split df_ok.1 (by simp) df_ok.2).1
  have y1 : entN M1 2 nD = some 3 := by rw [x1]; exact putE_self
  have m2 : makeN M1 11 ⟨#[47, 100, 47, 102]⟩ false = (4, 0, addM M1 4 (freshNd false) 3 nF) := by
    rw [pDF, make_at p1 p2 p3 ((lead_goE [nD] 2 3).2 (by rw [goE_cons, y1]; rfl)) d1 (by rw [x1, putE_other (by decide), e0]) (fun h => by rw [psd] at h; cases h) (fun h => by cases h),
      least_eq 11 2 4 (fun y h1 h2 => by
        rw [s1]
        by_cases e : y = 3
        · rw [if_pos e]
        · obtain rfl : y = 2 := by omega
          rfl) (by decide) (by decide) (by have := s1 4; cases hq : M1 4 with | none => rfl | some v => rw [hq] at this; cases this) (by decide)]
    rfl
  have G2 := G1.make ⟨#[47, 100, 47, 102]⟩ false
  rw [m2] at G2
  have z4 : M1 4 = none := by have := s1 4; cases hq : M1 4 with | none => rfl | some v => rw [hq] at this; cases this
  have x2 : entN (addM M1 4 (freshNd false) 3 nF) = putE (entN M1) 3 nF (some 4) := ent_add d1 z4
  have d2 : isDir (addM M1 4 (freshNd false) 3 nF) 4 = false := by rw [isDir_of addM_i]; rfl
  have k2 : lkN (addM M1 4 (freshNd false) 3 nF) 4 = 1 := by rw [lkN_of addM_i]; rfl
  have d23 : isDir (addM M1 4 (freshNd false) 3 nF) 3 = true := by rw [(add_same (by decide)).2.2]; exact d1
  have s2 : ∀ x, (addM M1 4 (freshNd false) 3 nF x).isSome = if x = 4 then true else (M1 x).isSome := fun x => some_add
  have k23 : lkN (addM M1 4 (freshNd false) 3 nF) 3 = 1 := ((G2.1.lk 3 (by rw [s2, s1]; rfl)).2.2 d23).1
  rw [x1] at x2
  generalize addM M1 4 (freshNd false) 3 nF = M2 at *
  have y2 : entN M2 2 nD = some 3 := by rw [x2, putE_other (by decide), putE_self]
  have y3 : entN M2 3 nF = some 4 := by rw [x2, putE_self]
  -- Link
  obtain ⟨q1, q2, q3⟩ := par_path (d := false) (one_name okG_).1 (one_name okG_).2.1
  have qd := (path_split (one_name okG_).1 (by simp) (one_name okG_).2.1).2.2
  rw [List.nil_append] at q1 q2 q3 qd
  have m3 : linkN M2 ⟨#[47, 100, 47, 102]⟩ ⟨#[47, 103]⟩ = (0, linkM M2 2 nG 4) := by
    rw [pDF, pG, link_at ps0 q1 q2 q3 (look_two y2 y3) d2 root_lead G2.1.ok.root (by rw [x2, putE_other (by decide), putE_other (by decide), e0]) qd, k2, if_neg (by decide)]
  have G3 := G2.link ⟨#[47, 100, 47, 102]⟩ ⟨#[47, 103]⟩
  rw [m3] at G3
  obtain ⟨x3, d3, s3, k3⟩ := ent_link (M := M2) (i := 4) (p := 2) (s := nG) G2.1.ok.root
  rw [x2] at x3
  generalize linkM M2 2 nG 4 = M3 at *
  have y4 : entN M3 2 nD = some 3 := by rw [x3, putE_other (by decide), putE_other (by decide), putE_self]
  have y5 : entN M3 3 nF = some 4 := by rw [x3, putE_other (by decide), putE_self]
  have f4 : isDir M3 4 = false := by rw [d3, d2]
  -- Unlink
  have m4 : goneN M3 ⟨#[47, 100, 47, 102]⟩ false = (0, dropT M3 3 nF 4) := by
    rw [pDF]
    exact gone_at p1 p2 p3 ((lead_goE [nD] 2 3).2 (by rw [goE_cons, y4]; rfl)) y5 (wrong_file f4) (fun h => by rw [psd] at h; cases h)
  have G4 := G3.gone ⟨#[47, 100, 47, 102]⟩ false
  rw [m4] at G4
  obtain ⟨nd4, hm4⟩ := Option.isSome_iff_exists.1 (G3.1.ok.ent 3 nF 4 y5)
  have hl4 : nd4.links = 2 := by
    have := k3 4
    rw [lkN_of hm4, if_pos rfl, G2.1.ok.ent 3 nF 4 y3, k2] at this
    rw [this]; rfl
  obtain ⟨x4, d4⟩ := drop_ent hm4 y5 (ent_file f4)
  have s4 := drop_some hm4 y5
  have k4 := drop_lk hm4 y5
  rw [hl4] at s4
  rw [x3] at x4
  generalize dropT M3 3 nF 4 = M4 at *
  have y6 : entN M4 2 nD = some 3 := by rw [x4, putE_other (by decide), putE_other (by decide), putE_other (by decide), putE_self]
  have t43 : (M4 3).isSome = true := by rw [s4, if_neg (by decide), s3, s2, s1]; rfl
  have f43 : isDir M4 3 = true := by rw [d4 3 t43, d3, d23]
  have n43 : ∀ t, entN M4 3 t = none := fun t => by
    rw [x4]
    by_cases e : t = nF
    · rw [e, putE_self]
    · rw [putE_other (fun h => e h.2), putE_other (fun h => by cases h.1), putE_other (fun h => e h.2), putE_other (fun h => by cases h.1), e0]
  -- Rmdir
  have m5 : goneN M4 ⟨#[47, 100]⟩ true = (0, dropT M4 2 nD 3) := by
    rw [pD]
    exact root_gone okD_ y6 (wrong_dir f43 n43)
  have G5 := G4.gone ⟨#[47, 100]⟩ true
  rw [m5] at G5
  obtain ⟨nd5, hm5⟩ := Option.isSome_iff_exists.1 t43
  have hl5 : nd5.links = 1 := by rw [← lkN_of hm5]; exact ((G4.1.lk 3 t43).2.2 f43).1
  obtain ⟨x5, d5⟩ := drop_ent hm5 y6 n43
  have s5 := drop_some hm5 y6
  rw [hl5] at s5
  rw [x4] at x5
  generalize dropT M4 2 nD 3 = M5 at *
  have z3 : M5 3 = none := by
    have := s5 3
    rw [if_pos rfl] at this
    cases hq : M5 3 with
    | none => rfl
    | some v => rw [hq] at this; cases this
  -- Create /h
  have m6 : makeN M5 11 ⟨#[47, 104]⟩ false = (3, 0, addM M5 3 (freshNd false) 2 nH) := by
    rw [pH]
    exact root_make G5 okH_ (by rw [x5]; rfl) (least_eq 11 2 3 (fun y h1 h2 => by have e : y = 2 := (by omega); subst e; exact G5.1.ok.root_there) (by decide) (by decide) z3 (by decide))
  have G6 := G5.make ⟨#[47, 104]⟩ false
  rw [m6] at G6
  have x6 : entN (addM M5 3 (freshNd false) 2 nH) = putE (entN M5) 2 nH (some 3) := ent_add G5.1.ok.root z3
  have d6 : isDir (addM M5 3 (freshNd false) 2 nH) 3 = false := by rw [isDir_of addM_i]; rfl
  have t54 : (M5 4).isSome = true := by rw [s5, if_neg (by decide), s4]; rfl
  have d64 : isDir (addM M5 3 (freshNd false) 2 nH) 4 = false := by
    rw [(add_same (by decide)).2.2, d5 4 t54, d4 4 (by rw [s4]; rfl), f4]
  rw [x5] at x6
  refine ⟨M1, M2, M3, M4, M5, _, G1, G2, G3, G4, G5, G6, m1, m2, m3, m4, m5, m6, fun l hl => ?_⟩
  rw [pG, pH]
  refine walk_two (i := 4) (j := 3) (by decide) (by rw [x6]; rfl) (by rw [x6]; rfl) (fun x h1 h2 => ?_) d64 d6 (by decide) hl
  rw [x6, putE_other (fun h => h2 h.2)]
  by_cases e : x = nD
  · rw [e, putE_self]
  · rw [putE_other (fun h => e h.2), putE_other (fun h => by cases h.1), putE_other (fun h => h1 h.2), putE_other (fun h => by cases h.1), putE_other (fun h => e h.2), e0]
end Go.Proofs.Ytoofcnehoffllaa
