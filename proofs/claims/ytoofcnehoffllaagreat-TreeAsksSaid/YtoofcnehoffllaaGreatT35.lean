/- The document's example, plainly. -/
/- The fixed fact: awake answers true. -/
/- The laws' names of files. -/
import Derived.Test.YtoofcnehoffllaaGreatT32
namespace Go.Proofs.YtoofcnehoffllaaGreat
open Go.RowKit

def nD : ByteArray := ⟨#[100]⟩
def nF : ByteArray := ⟨#[102]⟩
def nG : ByteArray := ⟨#[103]⟩
def nH : ByteArray := ⟨#[104]⟩
theorem okD_ : nameE nD.data.toList = 0 := by decide
theorem okF_ : nameE nF.data.toList = 0 := by decide
theorem okG_ : nameE nG.data.toList = 0 := by decide
theorem okH_ : nameE nH.data.toList = 0 := by decide
theorem pD : (⟨#[47, 100]⟩ : ByteArray) = pathS [nD] false := rfl
theorem pG : (⟨#[47, 103]⟩ : ByteArray) = pathS [nG] false := rfl
theorem pH : (⟨#[47, 104]⟩ : ByteArray) = pathS [nH] false := rfl
theorem pDF : (⟨#[47, 100, 47, 102]⟩ : ByteArray) = pathS ([nD] ++ [nF]) false := rfl
theorem df_ok : NamesOk ([nD] ++ [nF]) ∧ (pathS ([nD] ++ [nF]) false).size ≤ 255 := by
  refine ⟨fun x hx => ?_, by decide⟩
  rcases List.mem_append.1 hx with hx | hx
  · rw [List.mem_singleton.1 hx]; exact okD_
  · rw [List.mem_singleton.1 hx]; exact okF_
theorem look_two {M : TM} {p i : Nat} (h1 : entN M 2 nD = some p) (h2 : entN M p nF = some i) : lookN M (pathS ([nD] ++ [nF]) false) = .inl i := by
  rw [look_path df_ok.1 (by simp) df_ok.2, (lead_goE _ 2 i).2 (goE_snoc.2 ⟨p, by rw [goE_cons, h1]; rfl, h2⟩)]
  rfl
theorem awake_plain : ∃ M1 M2 M3 M4 M5 M6 : TM, Good M1 11 ∧ Good M2 11 ∧ Good M3 11 ∧ Good M4 11 ∧ Good M5 11 ∧ Good M6 11 ∧
    makeN newM 11 ⟨#[47, 100]⟩ true = (3, 0, M1) ∧ makeN M1 11 ⟨#[47, 100, 47, 102]⟩ false = (4, 0, M2) ∧ linkN M2 ⟨#[47, 100, 47, 102]⟩ ⟨#[47, 103]⟩ = (0, M3) ∧ goneN M3 ⟨#[47, 100, 47, 102]⟩ false = (0, M4) ∧
    goneN M4 ⟨#[47, 100]⟩ true = (0, M5) ∧ makeN M5 11 ⟨#[47, 104]⟩ false = (3, 0, M6) ∧ ∀ l, WalkIs M6 l → l = [⟨#[47, 103]⟩, ⟨#[47, 104]⟩] := by
  have G0 : Good newM 11 := newM_full (by decide)
  have e0 := newM_ent
  -- Mkdir /d
  have m1 : makeN newM 11 ⟨#[47, 100]⟩ true = (3, 0, addM newM 3 (freshNd true) 2 nD) := by
    rw [pD]
    exact root_make G0 okD_ (e0 _ _) (least_eq 11 2 3 (fun y h1 h2 => by have e : y = 2 := (by omega); subst e; rfl) (by decide) (by decide) rfl (by decide))
  have G1 := G0.make ⟨#[47, 100]⟩ true
  rw [m1] at G1
  have x1 : entN (addM newM 3 (freshNd true) 2 nD) = putE (entN newM) 2 nD (some 3) := ent_add rfl rfl
  have d1 : isDir (addM newM 3 (freshNd true) 2 nD) 3 = true := rfl
  have s1 : ∀ x, (addM newM 3 (freshNd true) 2 nD x).isSome = if x = 3 then true else (newM x).isSome := fun x => some_add
  generalize addM newM 3 (freshNd true) 2 nD = M1 at *
  have r1 : isDir M1 2 = true := G1.1.ok.root
  -- Create /d/f
  obtain ⟨p1, p2, p3⟩ := par_path (d := false) df_ok.1 df_ok.2
  have psd := (path_split df_ok.1 (by simp) df_ok.2).2.2
  have ps0 := (path_split df_ok.1 (by simp) df_ok.2).1
  have y1 : entN M1 2 nD = some 3 := by rw [x1]; exact putE_self
  have m2 : makeN M1 11 ⟨#[47, 100, 47, 102]⟩ false = (4, 0, addM M1 4 (freshNd false) 3 nF) := by
    rw [pDF, make_at p1 p2 p3 ((lead_goE [nD] 2 3).2 (by rw [goE_cons, y1]; rfl)) d1 (by rw [x1, putE_other (by decide), e0]) (fun h => by rw [psd] at h; cases h) (fun h => by cases h),
      least_eq 11 2 4 (fun y h1 h2 => by
        rw [s1]
        by_cases e : y = 3
        · rw [if_pos e]
        · obtain rfl : y = 2 := by omega
          rfl) (by decide) (by decide) (by have := s1 4; cases hq : M1 4 with | none => rfl | some v => rw [hq] at this; cases this) (by decide)]
    rfl
  have G2 := G1.make ⟨#[47, 100, 47, 102]⟩ false
  rw [m2] at G2
  have z4 : M1 4 = none := by have := s1 4; cases hq : M1 4 with | none => rfl | some v => rw [hq] at this; cases this
  have x2 : entN (addM M1 4 (freshNd false) 3 nF) = putE (entN M1) 3 nF (some 4) := ent_add d1 z4
  have d2 : isDir (addM M1 4 (freshNd false) 3 nF) 4 = false := by rw [isDir_of addM_i]; rfl
  have k2 : lkN (addM M1 4 (freshNd false) 3 nF) 4 = 1 := by rw [lkN_of addM_i]; rfl
  have d23 : isDir (addM M1 4 (freshNd false) 3 nF) 3 = true := by rw [(add_same (by decide)).2.2]; exact d1
  have s2 : ∀ x, (addM M1 4 (freshNd false) 3 nF x).isSome = if x = 4 then true else (M1 x).isSome := fun x => some_add
  have k23 : lkN (addM M1 4 (freshNd false) 3 nF) 3 = 1 := ((G2.1.lk 3 (by rw [s2, s1]; rfl)).2.2 d23).1
  rw [x1] at x2
  generalize addM M1 4 (freshNd false) 3 nF = M2 at *
  have y2 : entN M2 2 nD = some 3 := by rw [x2, putE_other (by decide), putE_self]
  have y3 : entN M2 3 nF = some 4 := by rw [x2, putE_self]
  -- Link
  obtain ⟨q1, q2, q3⟩ := par_path (d := false) (one_name okG_).1 (one_name okG_).2.1
  have qd := (path_split (one_name okG_).1 (by simp) (one_name okG_).2.1).2.2
  rw [List.nil_append] at q1 q2 q3 qd
  have m3 : linkN M2 ⟨#[47, 100, 47, 102]⟩ ⟨#[47, 103]⟩ = (0, linkM M2 2 nG 4) := by
    rw [pDF, pG, link_at ps0 q1 q2 q3 (look_two y2 y3) d2 root_lead G2.1.ok.root (by rw [x2, putE_other (by decide), putE_other (by decide), e0]) qd, k2, if_neg (by decide)]
  have G3 := G2.link ⟨#[47, 100, 47, 102]⟩ ⟨#[47, 103]⟩
  rw [m3] at G3
  obtain ⟨x3, d3, s3, k3⟩ := ent_link (M := M2) (i := 4) (p := 2) (s := nG) G2.1.ok.root
  rw [x2] at x3
  generalize linkM M2 2 nG 4 = M3 at *
  have y4 : entN M3 2 nD = some 3 := by rw [x3, putE_other (by decide), putE_other (by decide), putE_self]
  have y5 : entN M3 3 nF = some 4 := by rw [x3, putE_other (by decide), putE_self]
  have f4 : isDir M3 4 = false := by rw [d3, d2]
  -- Unlink
  have m4 : goneN M3 ⟨#[47, 100, 47, 102]⟩ false = (0, dropT M3 3 nF 4) := by
    rw [pDF]
    exact gone_at p1 p2 p3 ((lead_goE [nD] 2 3).2 (by rw [goE_cons, y4]; rfl)) y5 (wrong_file f4) (fun h => by rw [psd] at h; cases h)
  have G4 := G3.gone ⟨#[47, 100, 47, 102]⟩ false
  rw [m4] at G4
  obtain ⟨nd4, hm4⟩ := Option.isSome_iff_exists.1 (G3.1.ok.ent 3 nF 4 y5)
  have hl4 : nd4.links = 2 := by
    have := k3 4
    rw [lkN_of hm4, if_pos rfl, G2.1.ok.ent 3 nF 4 y3, k2] at this
    rw [this]; rfl
  obtain ⟨x4, d4⟩ := drop_ent hm4 y5 (ent_file f4)
  have s4 := drop_some hm4 y5
  have k4 := drop_lk hm4 y5
  rw [hl4] at s4
  rw [x3] at x4
  generalize dropT M3 3 nF 4 = M4 at *
  have y6 : entN M4 2 nD = some 3 := by rw [x4, putE_other (by decide), putE_other (by decide), putE_other (by decide), putE_self]
  have t43 : (M4 3).isSome = true := by rw [s4, if_neg (by decide), s3, s2, s1]; rfl
  have f43 : isDir M4 3 = true := by rw [d4 3 t43, d3, d23]
  have n43 : ∀ t, entN M4 3 t = none := fun t => by
    rw [x4]
    by_cases e : t = nF
    · rw [e, putE_self]
    · rw [putE_other (fun h => e h.2), putE_other (fun h => by cases h.1), putE_other (fun h => e h.2), putE_other (fun h => by cases h.1), e0]
  -- Rmdir
  have m5 : goneN M4 ⟨#[47, 100]⟩ true = (0, dropT M4 2 nD 3) := by
    rw [pD]
    exact root_gone okD_ y6 (wrong_dir f43 n43)
  have G5 := G4.gone ⟨#[47, 100]⟩ true
  rw [m5] at G5
  obtain ⟨nd5, hm5⟩ := Option.isSome_iff_exists.1 t43
  have hl5 : nd5.links = 1 := by rw [← lkN_of hm5]; exact ((G4.1.lk 3 t43).2.2 f43).1
  obtain ⟨x5, d5⟩ := drop_ent hm5 y6 n43
  have s5 := drop_some hm5 y6
  rw [hl5] at s5
  rw [x4] at x5
  generalize dropT M4 2 nD 3 = M5 at *
  have z3 : M5 3 = none := by
    have := s5 3
    rw [if_pos rfl] at this
    cases hq : M5 3 with
    | none => rfl
    | some v => rw [hq] at this; cases this
  -- Create /h
  have m6 : makeN M5 11 ⟨#[47, 104]⟩ false = (3, 0, addM M5 3 (freshNd false) 2 nH) := by
    rw [pH]
    exact root_make G5 okH_ (by rw [x5]; rfl) (least_eq 11 2 3 (fun y h1 h2 => by have e : y = 2 := (by omega); subst e; exact G5.1.ok.root_there) (by decide) (by decide) z3 (by decide))
  have G6 := G5.make ⟨#[47, 104]⟩ false
  rw [m6] at G6
  have x6 : entN (addM M5 3 (freshNd false) 2 nH) = putE (entN M5) 2 nH (some 3) := ent_add G5.1.ok.root z3
  have d6 : isDir (addM M5 3 (freshNd false) 2 nH) 3 = false := by rw [isDir_of addM_i]; rfl
  have t54 : (M5 4).isSome = true := by rw [s5, if_neg (by decide), s4]; rfl
  have d64 : isDir (addM M5 3 (freshNd false) 2 nH) 4 = false := by
    rw [(add_same (by decide)).2.2, d5 4 t54, d4 4 (by rw [s4]; rfl), f4]
  rw [x5] at x6
  refine ⟨M1, M2, M3, M4, M5, _, G1, G2, G3, G4, G5, G6, m1, m2, m3, m4, m5, m6, fun l hl => ?_⟩
  rw [pG, pH]
  refine walk_two (i := 4) (j := 3) (by decide) (by rw [x6]; rfl) (by rw [x6]; rfl) (fun x h1 h2 => ?_) d64 d6 (by decide) hl
  rw [x6, putE_other (fun h => h2 h.2)]
  by_cases e : x = nD
  · rw [e, putE_self]
  · rw [putE_other (fun h => e h.2), putE_other (fun h => by cases h.1), putE_other (fun h => h1 h.2), putE_other (fun h => by cases h.1), putE_other (fun h => e h.2), e0]
end Go.Proofs.YtoofcnehoffllaaGreat

namespace Go.Proofs.YtoofcnehoffllaaGreat
open Go.RowKit

theorem StrsAt.built {w : World} {l : List ByteArray} (c : Array Value) (hc : c = (l.map Value.string).toArray) (hl : 0 < l.length) (t : TypeId) : StrsAt (w.heap.size + 1) (w.alloc (.cells c t)) (.slice (some ⟨w.heap.size, 0, none⟩) l.length l.length) l := by
  refine .inr ⟨_, _, _, rfl, Nat.le_refl _, hl, Nat.lt_succ_self _, fun j x hx => ?_⟩
  rw [Nat.zero_add]
  refine cell_blk_some (blk_new rfl) ?_
  rw [hc]; simp [hx]
/-- A tree of a call's own: its blocks are new since w0. -/
structure LAt (w0 w : World) (tb cap : Nat) (M : TM) : Prop where
  at_ : TAt w tb cap (fun b => w0.heap.size ≤ b) M
  good : Good M cap
  bel : Below w0.heap.size w0 w
section
variable {w0 w w' : World} {tb cap : Nat} {M M' : TM}
theorem LAt.left (h : LAt w0 w tb cap M) (hl : TLeft w w' tb cap (fun b => w0.heap.size ≤ b) M') (hg : Good M' cap) : LAt w0 w' tb cap M' := by
  obtain ⟨⟨nb, P, E, V, hT, hF⟩, hfr⟩ := hl
  have hs := h.bel.size
  exact ⟨⟨nb, P, E, V, hT, fun b hb => (hF b hb).elim id fun h => by omega⟩, hg, h.bel.trans (hfr.toBelow hs fun x hx => hx)⟩
theorem LAt.below (h : LAt w0 w tb cap M) (hb : Below w.heap.size w w') : LAt w0 w' tb cap M := by
  obtain ⟨nb, P, E, V, hT, hF⟩ := h.at_
  exact ⟨⟨nb, P, E, V, hT.below hb, hF⟩, h.good, below_call h.bel hb (Nat.le_refl _)⟩
theorem LAt.new {n tb nb eb b2 : Nat} (h4 : 4 ≤ n) (hT : TIn w tb nb (n + 1) (at2 b2) (at2 eb) (fun _ => .slice none 0 0) newM) (h1 : w0.heap.size ≤ tb) (h2 : w0.heap.size ≤ nb) (h3 : w0.heap.size ≤ eb) (h5 : w0.heap.size ≤ b2) (hb : Below w0.heap.size w0 w) : LAt w0 w tb (n + 1) newM := by
  refine ⟨⟨nb, _, _, _, hT, fun b hb => ?_⟩, newM_full (by omega), hb⟩
  have key : ∀ {c i x : Nat}, at2 c i = some x → x = c := fun {c i x} h => by
    unfold at2 at h
    split at h
    · injection h with h; exact h.symm
    · cases h
  rcases hb with h | h | ⟨i, h⟩ | ⟨i, h⟩ | ⟨i, h⟩
  · show _ ≤ b; omega
  · show _ ≤ b; omega
  · have := key h; show _ ≤ b; omega
  · have := key h; show _ ≤ b; omega
  · cases h
theorem LAt.create (h : LAt w0 w tb cap M) (s : ByteArray) (hs : s.size ≤ 1000000) :
    Calls Tryz.prog 20 #[.pointer (some ⟨tb, 0, none⟩), .string s] w fun e w' => e = .returned (.tuple #[.int .i64 (makeN M cap s false).1, .int .i64 (makeN M cap s false).2.1]) ∧ LAt w0 w' tb cap (makeN M cap s false).2.2 :=
  (create_any h.at_ s hs).mono fun _ _ ⟨a, b⟩ => ⟨a, h.left b (h.good.make s false)⟩
theorem LAt.mkdir (h : LAt w0 w tb cap M) (s : ByteArray) (hs : s.size ≤ 1000000) :
    Calls Tryz.prog 19 #[.pointer (some ⟨tb, 0, none⟩), .string s] w fun e w' => e = .returned (.tuple #[.int .i64 (makeN M cap s true).1, .int .i64 (makeN M cap s true).2.1]) ∧ LAt w0 w' tb cap (makeN M cap s true).2.2 :=
  (mkdir_any h.at_ s hs).mono fun _ _ ⟨a, b⟩ => ⟨a, h.left b (h.good.make s true)⟩
theorem LAt.unlink (h : LAt w0 w tb cap M) (s : ByteArray) (hs : s.size ≤ 1000000) :
    Calls Tryz.prog 22 #[.pointer (some ⟨tb, 0, none⟩), .string s] w fun e w' => e = .returned (.int .i64 (goneN M s false).1) ∧ LAt w0 w' tb cap (goneN M s false).2 :=
  (unlink_any h.at_ h.good.1 s hs).mono fun _ _ ⟨a, b⟩ => ⟨a, h.left b (h.good.gone s false)⟩
theorem LAt.rmdir (h : LAt w0 w tb cap M) (s : ByteArray) (hs : s.size ≤ 1000000) :
    Calls Tryz.prog 23 #[.pointer (some ⟨tb, 0, none⟩), .string s] w fun e w' => e = .returned (.int .i64 (goneN M s true).1) ∧ LAt w0 w' tb cap (goneN M s true).2 :=
  (rmdir_any h.at_ h.good.1 s hs).mono fun _ _ ⟨a, b⟩ => ⟨a, h.left b (h.good.gone s true)⟩
theorem LAt.link (h : LAt w0 w tb cap M) (old s : ByteArray) (ho : old.size ≤ 1000000) (hs : s.size ≤ 1000000) :
    Calls Tryz.prog 21 #[.pointer (some ⟨tb, 0, none⟩), .string old, .string s] w fun e w' => e = .returned (.int .i64 (linkN M old s).1) ∧ LAt w0 w' tb cap (linkN M old s).2 :=
  (link_any h.at_ h.good.1 old s ho hs).mono fun _ _ ⟨a, b⟩ => ⟨a, h.left b (h.good.link old s)⟩
theorem LAt.write (h : LAt w0 w tb cap M) (s : ByteArray) (hs : s.size ≤ 1000000) (at_ : Int) (hat : -9223372036854775808 ≤ at_ ∧ at_ ≤ 9223372036854775807) {dv : Value} {x : List Int}
    (hx : SrcG 1 w dv x.length (u8s x)) (hxF : 0 < x.length → ∀ a c ad, dv = .slice a x.length c → a = some ad → ¬ w0.heap.size ≤ ad.block) (hxl : x.length ≤ 1000000) (hb : ∀ y ∈ x, 0 ≤ y ∧ y < 256) :
    Calls Tryz.prog 133 #[.pointer (some ⟨tb, 0, none⟩), .string s, .int .i64 at_, dv] w fun e w' => e = .returned (.int .i64 (writeN M s at_ x).1) ∧ LAt w0 w' tb cap (writeN M s at_ x).2 :=
  (write_any h.at_ h.good.1 s hs at_ hat hx hxF hxl).mono fun _ _ ⟨a, b⟩ => ⟨a, h.left b (h.good.write s at_ hb)⟩
theorem LAt.trunc (h : LAt w0 w tb cap M) (s : ByteArray) (hs : s.size ≤ 1000000) (k : Int) (hk : -9223372036854775808 ≤ k ∧ k ≤ 9223372036854775807) :
    Calls Tryz.prog 132 #[.pointer (some ⟨tb, 0, none⟩), .string s, .int .i64 k] w fun e w' => e = .returned (.int .i64 (truncN M s k).1) ∧ LAt w0 w' tb cap (truncN M s k).2 :=
  (truncate_any h.at_ h.good.1 s hs k hk).mono fun _ _ ⟨a, b⟩ => ⟨a, h.left b (h.good.trunc s k)⟩
theorem LAt.walk (h : LAt w0 w tb cap M) : Calls Tryz.prog 24 #[.pointer (some ⟨tb, 0, none⟩)] w fun e w' => ∃ v l, e = .returned v ∧ WalkIs M l ∧ l.length ≤ 20100 ∧ StrsAt w'.heap.size w' v l ∧ Below w.heap.size w w' :=
  (walk_any h.at_ h.good.1 h.good.2).mono fun _ _ ⟨v, l, a, b, c, d, e⟩ => ⟨v, l, a, b, c, StrsAt.own d, e⟩
theorem LAt.le (h : LAt w0 w tb cap M) : w0.heap.size ≤ w.heap.size := h.bel.size
end
set_option maxHeartbeats 4000000 in
set_option maxRecDepth 100000 in
theorem awake_any (w : World) : Calls Tryz.prog 5 #[] w fun e w' => e = .returned (.bool true) ∧ Below w.heap.size w w' := by
  obtain ⟨M1, M2, M3, M4, M5, M6, G1, G2, G3, G4, G5, G6, m1, m2, m3, m4, m5, m6, hw⟩ := awake_plain
  have HN := Lib.hid (new_any (n := 10) (by decide) (by decide) w)
  have Q1 := Lib.hid m1; have Q2 := Lib.hid m2; have Q3 := Lib.hid m3; have Q4 := Lib.hid m4; have Q5 := Lib.hid m5; have Q6 := Lib.hid m6; have HW := Lib.hid hw
  clear m1 m2 m3 m4 m5 m6 hw G1 G2 G3 G4 G5 G6
  go_enter Tryz.func5, Tryz.ntmps5
  go_wp2_with fail
  refine HN.out.mono ?_
  rintro e w1 ⟨tb, nb, eb, b2, rfl, hT, h1, h2, h3, h4, hb1⟩
  have L1 := LAt.new (by decide) hT h1 h2 h3 h4 hb1
  have C1 := L1.mkdir ⟨#[47, 100]⟩ (by decide)
  rw [Q1.out] at C1
  have HC1 := Lib.hid C1
  clear HN hT h1 h2 h3 h4 hb1 C1 L1
  go_wp2_with fail
  refine HC1.out.mono ?_
  rintro e w2 ⟨rfl, L2⟩
  have C2 := L2.create ⟨#[47, 100, 47, 102]⟩ (by decide)
  rw [Q2.out] at C2
  have HC2 := Lib.hid C2
  clear C2 L2 HC1
  go_wp2_with fail
  refine HC2.out.mono ?_
  rintro e w3 ⟨rfl, L3⟩
  have C3 := L3.link ⟨#[47, 100, 47, 102]⟩ ⟨#[47, 103]⟩ (by decide) (by decide)
  rw [Q3.out] at C3
  have HC3 := Lib.hid C3
  clear C3 L3 HC2
  go_wp2_with fail
  refine HC3.out.mono ?_
  rintro e w4 ⟨rfl, L4⟩
  have C4 := L4.unlink ⟨#[47, 100, 47, 102]⟩ (by decide)
  rw [Q4.out] at C4
  have HC4 := Lib.hid C4
  clear C4 L4 HC3
  go_wp2_with fail
  refine HC4.out.mono ?_
  rintro e w5 ⟨rfl, L5⟩
  have C5 := L5.rmdir ⟨#[47, 100]⟩ (by decide)
  rw [Q5.out] at C5
  have HC5 := Lib.hid C5
  clear C5 L5 HC4
  go_wp2_with fail
  refine HC5.out.mono ?_
  rintro e w6 ⟨rfl, L6⟩
  have C6 := L6.create ⟨#[47, 104]⟩ (by decide)
  rw [Q6.out] at C6
  have HC6 := Lib.hid C6
  clear C6 L6 HC5
  go_wp2_with fail
  refine HC6.out.mono ?_
  rintro e w7 ⟨rfl, L7⟩
  have HC7 := Lib.hid L7.walk
  have HL7 := Lib.hid L7
  clear L7 HC6
  go_wp2_with fail
  refine HC7.out.mono ?_
  rintro e w8 ⟨v, l, rfl, hl, -, hst, hb8⟩
  rw [HW.out l hl] at hst
  have hb := Lib.hid (HL7.out.below hb8).bel
  have ht := texts_any (B := w8.heap.size + 1) (w := w8.alloc (.cells #[.string ⟨#[47, 103]⟩, .string ⟨#[47, 104]⟩] 9)) (u := v) ((hst.below ((Below.refl _ w8).alloc (Nat.le_refl _) _)).mono (Nat.le_succ _)) (StrsAt.built (l := [⟨#[47, 103]⟩, ⟨#[47, 104]⟩]) _ rfl (by decide) _) (by simp) (by decide) (by decide)
  have HT := Lib.hid ht
  clear ht hst hl hb8 HC7
  go_wp2_with fail
  refine HT.out.mono ?_
  rintro e w9 ⟨rfl, hb9⟩
  have HB9 := Lib.hid (below_call (hb.out.alloc hb.out.size _) hb9 (Nat.le_refl _))
  clear hb9 HT
  go_wp2_with fail
  go_ret
  exact ⟨rfl, HB9.out⟩
end Go.Proofs.YtoofcnehoffllaaGreat

namespace Go.Proofs.YtoofcnehoffllaaGreat
open Go.RowKit

/-- The name of the i-th file. -/
def nm (i : Nat) : ByteArray := mkS [UInt8.ofNat (97 + i / 10), UInt8.ofNat (48 + i % 10)]
theorem nm_ok : ∀ i, i < 100 → nameE (nm i).data.toList = 0 := by decide +kernel
theorem nm_inj : ∀ i, i < 100 → ∀ j, j < 100 → nm i = nm j → i = j := by decide +kernel
theorem addr_cell0 {W : World} {a : Addr} {u : Value} (h : W.cell? (a.add 0) = some u) : ∃ g o, a = ⟨g, o, none⟩ := by
  obtain ⟨g, o, sp⟩ := a
  have e0 : (⟨g, o, sp⟩ : Addr).add 0 = ⟨g, o, sp⟩ := by simp [Addr.add]
  rw [e0] at h
  unfold World.cell? at h
  cases hg : W.heap[g]? with
  | none => simp [hg] at h
  | some ob =>
    cases sp with
    | none => exact ⟨g, o, rfl⟩
    | some s => cases ob <;> simp [hg] at h
/-- A slice of bytes as a text. -/
theorem SrcG.str {w : World} {v : Value} {x : List Int} (h : SrcG 1 w v x.length (u8s x)) : (convert 34 9 v).run Tryz.prog w = .ok (.string (strOfNums x)) w := by
  obtain ⟨a, c, rfl, hl, h1, hc⟩ := h
  by_cases hn : 0 < x.length
  · obtain ⟨ad, rfl, hh⟩ := hc hn
    obtain ⟨u, hu⟩ : ∃ u, (u8s x)[0]? = some u := ⟨_, List.getElem?_eq_getElem (by rw [u8s_length]; exact hn)⟩
    obtain ⟨g, o, rfl⟩ := addr_cell0 (hh 0 u hu)
    have := run_convert_bytes_arg (P := Tryz.prog) w 34 5 Tryz.underlying34 Tryz.underlying5 g o x.length c x rfl (fun i hi => by
      have := hh i (.int .u8 (x.getD i 0)) (by unfold u8s; rw [List.getElem?_map, List.getElem?_eq_getElem hi, List.getD_eq_getElem?_getD, List.getElem?_eq_getElem hi]; rfl)
      rw [Addr.add_lit] at this
      exact this) _ Tryz.underlying9
    exact this
  · obtain rfl : x = [] := List.eq_nil_of_length_eq_zero (by omega)
    cases a with
    | none =>
      rw [run_convert_bytes_string w 34 9 5 _ _ c Tryz.underlying34 Tryz.underlying5 Tryz.underlying9]
      simp [Conv.bytesToString, strOfNums] <;> rfl
    | some ad =>
      rw [run_convert_bytes_string w 34 9 5 _ _ c Tryz.underlying34 Tryz.underlying5 Tryz.underlying9]
      simp [Conv.bytesToString, loadCells, strOfNums] <;> rfl
theorem name_two (i : Nat) (hi : i < 100) : (⟨#[47]⟩ : ByteArray) ++ strOfNums [97 + (i : Int) / 10, 48 + (i : Int) % 10] = pathS [nm i] false := by
  have h1 : (97 + (i : Int) / 10).toNat = 97 + i / 10 := by omega
  have h2 : (48 + (i : Int) % 10).toNat = 48 + i % 10 := by omega
  unfold strOfNums
  rw [List.map_cons, List.map_cons, List.map_nil, h1, h2]
  unfold pathS
  show mkS [47] ++ mkS [UInt8.ofNat (97 + i / 10), UInt8.ofNat (48 + i % 10)] = _
  rw [mkS_append, slashed_one]
  unfold nm
  rw [data_mkS]
  simp
end Go.Proofs.YtoofcnehoffllaaGreat
