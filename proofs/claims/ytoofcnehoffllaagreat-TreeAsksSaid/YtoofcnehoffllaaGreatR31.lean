/- Walk of the statement TreePlays: it returns true. -/
/- Walk of the statement TreeAsks: it returns true. -/
/- What an argument of the type [2]int is. -/
import Derived.Test.YtoofcnehoffllaaGreatR28
import Derived.Deep.Slices
namespace Go.Proofs.YtoofcnehoffllaaGreat
open Go.RowKit

/-- The two trees between two calls of a script: the reference's in the box bx. -/
def Pl (W wy : World) (tb bx cap : Nat) (M : TM) : Prop :=
  ∃ (F : Nat → Prop) (vr : Value), LFt W wy tb cap F M ∧ RefIs (fun b => ¬ F b ∧ b ≠ bx) wy vr cap (refM M) ∧ wy.heap[bx]? = some (.cells #[vr] 30 (0, 0)) ∧ ¬ F bx ∧ W.heap.size ≤ bx
section
variable {W w w' : World} {tb bx cap : Nat} {M : TM}
theorem Pl.below (h : Pl W w tb bx cap M) (hb : Below w.heap.size w w') : Pl W w' tb bx cap M := by
  obtain ⟨F, vr, h1, h2, h3, h4, h5⟩ := h
  exact ⟨F, vr, h1.below hb, h2.below hb, (hb.block _ (blk_lt h3)).trans h3, h4, h5⟩
theorem Pl.bel (h : Pl W w tb bx cap M) : Below W.heap.size W w := by
  obtain ⟨F, vr, h1, -⟩ := h
  exact h1.bel
end
set_option maxHeartbeats 8000000 in
set_option maxRecDepth 100000 in
theorem lawPlays_any (n : Int) (v0 : Value) (ops : List (TOp × Value)) (W : World) (hx : TOpsAt W v0 ops) :
    Calls Tryz.prog 3 #[.int .i64 n, v0] W fun e w' => e = .returned (.bool true) ∧ Below W.heap.size W w' := by
  have HA := Lib.hid awake_any
  obtain ⟨xa, xc, rfl, hxx⟩ := hx
  have HX := Lib.hid hxx
  clear hxx
  by_cases hn : n < 4 ∨ 200 < n
  · have HN := Lib.hid fun w => new_bad hn w
    have HR := Lib.hid fun w => refNew_bad hn w
    clear hn
    unfold treeV at HR
    go_enter Tryz.func3, Tryz.ntmps3
    go_wp2_with fail
    refine (HA.out _).mono ?_
    rintro e w1 ⟨rfl, hb1⟩
    have HB1 := Lib.hid hb1
    clear hb1
    go_wp2_with fail
    refine (HN.out _).mono ?_
    rintro e w2 ⟨rfl, rfl⟩
    go_wp2_with fail
    refine (HR.out _).mono ?_
    rintro e w2 ⟨rfl, hb2⟩
    have HB2 := Lib.hid (below_call (below_call HB1.out hb2 (Nat.le_refl _)) ((Below.refl w2.heap.size w2).alloc (Nat.le_refl _) (.cells #[.slice none 0 0] 30)) (Nat.le_refl _))
    clear hb2
    go_wp2_with fail
    generalize w2.alloc (.cells #[.slice none 0 0] 30) = w3 at *
    go_loopw [9] (fun i wy => i = .int .i64 0 ∧ Below W.heap.size W wy) (fun _ _ => 0)
    case atStart => exact ⟨rfl, HB2.out⟩
    case round =>
      obtain ⟨rfl, hb⟩ := hrel
      have HB := Lib.hid hb
      clear hb
      go_wp2_with fail
      go_ret
      exact ⟨rfl, HB.out⟩
  · obtain ⟨m, rfl⟩ : ∃ m : Nat, n = m := ⟨n.toNat, by omega⟩
    have hm4 : 4 ≤ m := by omega
    have hm2 : m ≤ 200 := by omega
    have HN := Lib.hid fun w => new_any hm4 hm2 w
    have HR := Lib.hid fun w => refNew_any hm4 hm2 w
    clear hn
    unfold treeV at HR
    go_enter Tryz.func3, Tryz.ntmps3
    go_wp2_with fail
    refine (HA.out _).mono ?_
    rintro e w1 ⟨rfl, hb1⟩
    have HB1 := Lib.hid hb1
    clear hb1
    go_wp2_with fail
    refine (HN.out _).mono ?_
    rintro e w2 ⟨tb, nb, eb, b2, rfl, hT, h1, h2, h3, h4, hb2⟩
    have hs1 := HB1.out.size
    have L0 := Lib.hid (LAt.new (w0 := W) hm4 hT (by omega) (by omega) (by omega) (by omega) (below_call HB1.out hb2 (Nat.le_refl _)))
    clear HN hT h1 h2 h3 h4 hb2 hs1
    go_wp2_with fail
    refine (HR.out _).mono ?_
    rintro e w3 ⟨vr, rfl, hr3, hb3⟩
    obtain ⟨-, g0, c0, rfl, -⟩ := id hr3
    have HP0 : Hid (Pl W (w3.alloc (.cells #[.slice (some ⟨g0, 0, none⟩) (m + 1) c0] 30)) tb w3.heap.size (m + 1) newM) := Lib.hid (by
      obtain ⟨F, hF⟩ := L0.out.ft
      have hb4 := (Below.refl w3.heap.size w3).alloc (Nat.le_refl _) (.cells #[.slice (some ⟨g0, 0, none⟩) (m + 1) c0] 30)
      exact ⟨F, _, (hF.below hb3).below hb4, (hr3.mono fun b hb hd => ⟨fun hf => by have := hF.lt b hf; omega, fun e => by omega⟩).below hb4, blk_new rfl, fun hf => by have := hF.lt _ hf; have := hb3.size; omega, Nat.le_trans hF.bel.size hb3.size⟩)
    clear hr3 hb3 HR L0 HB1
    go_wp2_with fail
    generalize hbx : w3.heap.size = bx at *
    go_loopw [9] (fun i wy => ∃ (t : Nat) (M : TM), t ≤ ops.length ∧ t ≤ 40 ∧ i = .int .i64 t ∧ Pl W wy tb bx (m + 1) M) (fun i _ => ops.length - (RowKit.intOf i).toNat)
    case atStart => exact ⟨0, newM, by omega, by omega, rfl, HP0.out⟩
    case round =>
      obtain ⟨t, M, ht, ht40, rfl, hst⟩ := hrel
      have HST := Lib.hid hst
      clear hst HP0
      by_cases htl : t < ops.length ∧ t < 40
      · obtain ⟨c1, c2⟩ := htl
        have q3 : decide ((t : Int) < (ops.length : Int)) = true := dec_true (by omega)
        have q4 : decide ((t : Int) < 40) = true := dec_true (by omega)
        have q5 : (t : Int) < (ops.length : Int) := by omega
        have q6 : (0 : Int) ≤ (t : Int) := by omega
        obtain ⟨g, o, rfl, hg, hat⟩ := HX.out (by omega)
        obtain ⟨x, hxt⟩ : ∃ x, ops[t]? = some x := ⟨_, List.getElem?_eq_getElem c1⟩
        obtain ⟨k0, k1, k2, k3, k4, hrng, hdat, hbyt⟩ := (hat t x hxt).below hg HST.out.bel
        have HF := Lib.hid (fits_any x (by obtain ⟨a, c, h, _⟩ := hdat; exact ⟨a, c, h⟩) wr)
        have HRNG := Lib.hid hrng.2; have HDAT := Lib.hid hdat; have HBYT := Lib.hid hbyt; have HAT := Lib.hid (hat t x hxt); have HG := Lib.hid hg
        clear hat hxt hrng hdat hbyt hg
        unfold opT at HF
        cases hfit : fitsN x.1 with
        | false =>
          rw [hfit] at HF
          clear hfit
          go_wp2_with fail
          refine HF.out.mono ?_
          rintro e w4 ⟨rfl, hb4⟩
          have HL := Lib.hid (HST.out.below hb4)
          clear hb4
          go_wp2_with fail
          go_roundw
          case rel => exact ⟨t + 1, M, by omega, by omega, by go_num, HL.out⟩
          case measure => simp only [RowKit.intOf]; omega
        | true =>
          have hsz : x.1.path.size ≤ 300 ∧ x.1.old.size ≤ 300 ∧ x.1.data.length ≤ 4200 := by
            unfold fitsN at hfit
            simp only [Bool.and_eq_true, decide_eq_true_eq] at hfit
            exact ⟨hfit.1.1, hfit.1.2, hfit.2⟩
          have HSZ := Lib.hid hsz
          rw [hfit] at HF
          clear hfit hsz
          go_wp2_with fail
          refine HF.out.mono ?_
          rintro e w4 ⟨rfl, hb4⟩
          have hpl := HST.out.below hb4
          have HPB := Lib.hid hpl.bel
          obtain ⟨F, vr, hl, hr, hbx, hnf, hbw⟩ := hpl
          have HLF := Lib.hid hl; have HRF := Lib.hid hr; have HBX := Lib.hid hbx; have HNF := Lib.hid hnf; have HBW := Lib.hid hbw
          obtain ⟨z0, z1, z2, z3, z4, -⟩ := HAT.out.below HG.out HPB.out
          have HD := Lib.hid (do_keep2 hl x (by have := HSZ.out.1; omega) (by have := HSZ.out.2.1; omega) (by have := HSZ.out.2.2; omega) HRNG.out (HDAT.out.src HPB.out) HBYT.out)
          unfold opT at HD
          clear hb4 HF k0 k1 k2 k3 k4 hl hr hbx hnf hbw
          go_wp2_with fail
          refine HD.out.mono ?_
          rintro e w5 ⟨rfl, F5, hl5, hfr5, hn5⟩
          have HL5 := Lib.hid hl5
          have hr5 : RefIs (fun b => (¬ F b ∧ b ≠ bx) ∧ b < w4.heap.size) w4 vr (m + 1) (refM M) := HRF.out.mono fun b hb hd => ⟨hd, hb⟩
          have HR5 : Hid (RefIs (fun b => ¬ F5 b ∧ b ≠ bx) w5 vr (m + 1) (refM M)) := Lib.hid ((hr5.fr hfr5 (fun b hb => hb.1.1)).mono fun b _ hd => ⟨hn5 b hd.2 hd.1.1, hd.1.2⟩)
          clear hr5
          have HBX5 := Lib.hid ((hfr5.block _ (blk_lt HBX.out) HNF.out).trans HBX.out)
          have HNF5 : Hid (¬ F5 bx) := Lib.hid (hn5 _ (blk_lt HBX.out) HNF.out)
          clear hl5 hfr5 hn5 HD z0 z1 z2 z3 z4
          obtain ⟨z0, z1, z2, z3, z4, -⟩ := HAT.out.below HG.out HL5.out.bel
          have y0 := cell_blk_some HBX5.out (i := 0) rfl
          have y1 := free_blk (i := 0) HBX5.out
          obtain ⟨-, g1, c1, rfl, -⟩ := id HR5.out
          have HDO := Lib.hid (refDo_any (HR5.out.below (below_drewN (Below.refl _ w5) 1)) HLF.out.good x (by have := HSZ.out.1; omega) (by have := HSZ.out.2.1; omega) (by have := HSZ.out.2.2; omega) HRNG.out (HDAT.out.src (below_drewN HL5.out.bel 1)))
          unfold opT treeV at HDO
          go_wp2_with fail
          go_region_law
            (go_simp; go_at_call 10
             refine HDO.out.mono ?_
             rintro e w6 ⟨v6, rfl, hr6, hb6⟩
             obtain ⟨-, g6, c6, rfl, -⟩ := id hr6
             have HR6 := Lib.hid hr6
             have hb56 : Below w5.heap.size w5 w6 := (below_drewN (Below.refl _ w5) 1).trans hb6
             have HB6 := Lib.hid hb56
             have hbx6 := (hb56.block _ (blk_lt HBX5.out)).trans HBX5.out
             have HBX6 := Lib.hid hbx6
             have y2 := cell_blk_some hbx6 (i := 0) rfl
             have y3 := free_blk (i := 0) hbx6
             clear hr6 hb6 hb56 hbx6
             dsimp only)
          all_goals
            have hfs := (Fr.refl (fun b => b = bx) w6).setCell ⟨bx, 0, none⟩ rfl (.slice (some ⟨g6, 0, none⟩) (m + 1) c6)
            have hl7 : LFt W (w6.setCell ⟨bx, 0, none⟩ (.slice (some ⟨g6, 0, none⟩) (m + 1) c6)) tb (m + 1) F5 (doN M (m + 1) x.1).2.2 := (HL5.out.below HB6.out).other hfs (fun b hb => by have hb : b = bx := hb; rw [hb]; exact HBW.out) fun b hb e => HNF5.out (by have e : b = bx := e; rw [← e]; exact hb)
            have hr7 : RefIs (fun b => ¬ F5 b ∧ b ≠ bx) (w6.setCell ⟨bx, 0, none⟩ (.slice (some ⟨g6, 0, none⟩) (m + 1) c6)) (.slice (some ⟨g6, 0, none⟩) (m + 1) c6) (m + 1) (refM (doN M (m + 1) x.1).2.2) := (HR6.out.mono fun b _ hd => hd.elim id fun h => (by
              have h : w5.heap.size ≤ b := h
              exact ⟨fun hf => by have := HL5.out.lt b hf; omega, fun e => by have := blk_lt HBX5.out; omega⟩ : ¬ F5 b ∧ b ≠ bx)).store (fun h => h.2 rfl) _
            have hb7 : (w6.setCell ⟨bx, 0, none⟩ (.slice (some ⟨g6, 0, none⟩) (m + 1) c6)).heap[bx]? = some (.cells #[.slice (some ⟨g6, 0, none⟩) (m + 1) c6] 30 (0, 0)) := blk_set HBX6.out _
            have HP7 : Hid (Pl W (w6.setCell ⟨bx, 0, none⟩ (.slice (some ⟨g6, 0, none⟩) (m + 1) c6)) tb bx (m + 1) (doN M (m + 1) x.1).2.2) := Lib.hid ⟨F5, _, hl7, hr7, hb7, HNF5.out, HBW.out⟩
            have HTL := Lib.hid (tells_any hl7.at_ hl7.good hr7)
            have y4 := cell_blk_some hb7 (i := 0) rfl
            unfold treeV at HTL
            clear hfs hl7 hr7 hb7 y0 y1 y2 y3 z0 z1 z2 z3 z4 HDO
            generalize w6.setCell ⟨bx, 0, none⟩ (.slice (some ⟨g6, 0, none⟩) (m + 1) c6) = w7 at *
            generalize doN M (m + 1) x.1 = r at *
            go_wp2_with fail
            refine HTL.out.mono ?_
            rintro e w8 ⟨rfl, hb8⟩
            have HP8 := Lib.hid (HP7.out.below hb8)
            clear hb8 HTL y4
            go_wp2_with fail
            go_roundw
            case rel => exact ⟨t + 1, _, by omega, by omega, by go_num, HP8.out⟩
            case measure => simp only [RowKit.intOf]; omega
      · have hq : (decide ((t : Int) < (ops.length : Int)) && decide ((t : Int) < 40)) = false := by
          by_cases h1 : (t : Int) < (ops.length : Int)
          · rw [decide_eq_true h1, decide_eq_false (show ¬ (t : Int) < 40 by omega)]; rfl
          · rw [decide_eq_false h1]; rfl
        have HBE := Lib.hid HST.out.bel
        by_cases htl1 : t < ops.length
        all_goals
          first
            | (have r1 : decide ((t : Int) < (ops.length : Int)) = true := dec_true (by omega)
               have r2 : decide ((t : Int) < 40) = false := dec_false (by omega)
               have r3 : (t : Int) < (ops.length : Int) := by omega
               have r4 : ¬ (t : Int) < 40 := by omega
               clear hq htl htl1
               go_wp2_with fail)
            | (have r1 : decide ((t : Int) < (ops.length : Int)) = false := dec_false (by omega)
               have r3 : ¬ (t : Int) < (ops.length : Int) := by omega
               clear hq htl htl1
               go_wp2_with fail)
          go_ret
          exact ⟨rfl, HBE.out⟩
end Go.Proofs.YtoofcnehoffllaaGreat

namespace Go.Proofs.YtoofcnehoffllaaGreat
open Go.RowKit

set_option maxHeartbeats 8000000 in
set_option maxRecDepth 100000 in
theorem lawAsks_any (v0 : Value) (ops : List (TOp × Value)) (s : ByteArray) (a b : Int) (W : World) (hx : TOpsAt W v0 ops) (hs : s.size ≤ 140737488355328) (ha : -9223372036854775808 ≤ a ∧ a ≤ 9223372036854775807) (hb : -9223372036854775808 ≤ b ∧ b ≤ 9223372036854775807) :
    Calls Tryz.prog 4 #[v0, .string s, .agg #[.int .i64 a, .int .i64 b]] W fun e w' => e = .returned (.bool true) ∧ Below W.heap.size W w' := by
  have HA := Lib.hid awake_any
  obtain ⟨xa, xc, rfl, hxx⟩ := hx
  have HX := Lib.hid hxx
  obtain ⟨W1, hW1⟩ : ∃ W1, W1 = W.alloc (.cells #[.int .i64 a, .int .i64 b] 43) := ⟨_, rfl⟩
  have hbW : Below W.heap.size W W1 := by rw [hW1]; exact (Below.refl _ W).alloc (Nat.le_refl _) _
  have hbx0 : W1.heap[W.heap.size]? = some (.cells #[.int .i64 a, .int .i64 b] 43 (0, 0)) := by rw [hW1]; exact blk_new rfl
  have HBW1 := Lib.hid hbW; have HBX0 := Lib.hid hbx0
  have HRA := Lib.hid ha; have HRB := Lib.hid hb
  clear hxx hbW hbx0 ha hb
  by_cases h300 : 300 < s.size
  · have q1 : decide ((300 : Int) < (s.size : Int)) = true := dec_true (by omega)
    have q2 : (300 : Int) < (s.size : Int) := by omega
    clear h300
    go_enter Tryz.func4, Tryz.ntmps4
    go_wp2_with fail
    rw [← hW1]
    clear hW1
    refine (HA.out _).mono ?_
    rintro e w1 ⟨rfl, hb1⟩
    have HB1 := Lib.hid hb1
    clear hb1
    go_wp2_with fail
    refine (HA.out _).mono ?_
    rintro e w2 ⟨rfl, hb2⟩
    have HB2 := Lib.hid (below_call HB1.out hb2 (Nat.le_refl _))
    clear hb2
    go_wp2_with fail
    go_ret
    exact ⟨rfl, below_call HBW1.out HB2.out (Nat.le_refl _)⟩
  · have q1 : decide ((300 : Int) < (s.size : Int)) = false := dec_false (by omega)
    have q2 : ¬ (300 : Int) < (s.size : Int) := by omega
    have HS : Hid (s.size ≤ 1000000) := Lib.hid (by omega)
    have HN := Lib.hid fun w => new_any (n := 20) (by decide) (by decide) w
    have HR := Lib.hid fun w => refNew_any (n := 20) (by decide) (by decide) w
    clear h300 hs
    unfold treeV at HR
    go_enter Tryz.func4, Tryz.ntmps4
    go_wp2_with fail
    rw [← hW1]
    clear hW1
    refine (HA.out _).mono ?_
    rintro e w1 ⟨rfl, hb1⟩
    have HB1 := Lib.hid hb1
    clear hb1
    go_wp2_with fail
    refine (HN.out _).mono ?_
    rintro e w2 ⟨tb, nb, eb, b2, rfl, hT, h1, h2, h3, h4, hb2⟩
    have hs1 := HB1.out.size
    have L0 := Lib.hid (LAt.new (w0 := W1) (by decide) hT (by omega) (by omega) (by omega) (by omega) (below_call HB1.out hb2 (Nat.le_refl _)))
    clear HN hT h1 h2 h3 h4 hb2 hs1 q1 q2
    go_wp2_with fail
    refine (HR.out _).mono ?_
    rintro e w3 ⟨vr, rfl, hr3, hb3⟩
    obtain ⟨-, g0, c0, rfl, -⟩ := id hr3
    have HP0 : Hid (Pl W1 (w3.alloc (.cells #[.slice (some ⟨g0, 0, none⟩) 21 c0] 30)) tb w3.heap.size 21 newM) := Lib.hid (by
      obtain ⟨F, hF⟩ := L0.out.ft
      have hb4 := (Below.refl w3.heap.size w3).alloc (Nat.le_refl _) (.cells #[.slice (some ⟨g0, 0, none⟩) 21 c0] 30)
      exact ⟨F, _, (hF.below hb3).below hb4, (hr3.mono fun b hb hd => ⟨fun hf => by have := hF.lt b hf; omega, fun e => by omega⟩).below hb4, blk_new rfl, fun hf => by have := hF.lt _ hf; have := hb3.size; omega, Nat.le_trans hF.bel.size hb3.size⟩)
    clear hr3 hb3 HR L0 HB1
    go_wp2_with fail
    generalize hbx : w3.heap.size = bx at *
    go_loopw [11] (fun i wy => ∃ (t : Nat) (M : TM), t ≤ ops.length ∧ t ≤ 40 ∧ i = .int .i64 t ∧ Pl W1 wy tb bx 21 M) (fun i _ => ops.length - (RowKit.intOf i).toNat)
    case atStart => exact ⟨0, newM, by omega, by omega, rfl, HP0.out⟩
    case round =>
      obtain ⟨t, M, ht, ht40, rfl, hst⟩ := hrel
      have HST := Lib.hid hst
      clear hst HP0
      by_cases htl : t < ops.length ∧ t < 40
      · obtain ⟨c1, c2⟩ := htl
        have q3 : decide ((t : Int) < (ops.length : Int)) = true := dec_true (by omega)
        have q4 : decide ((t : Int) < 40) = true := dec_true (by omega)
        have q5 : (t : Int) < (ops.length : Int) := by omega
        have q6 : (0 : Int) ≤ (t : Int) := by omega
        obtain ⟨g, o, rfl, hg, hat⟩ := HX.out (by omega)
        obtain ⟨x, hxt⟩ : ∃ x, ops[t]? = some x := ⟨_, List.getElem?_eq_getElem c1⟩
        obtain ⟨k0, k1, k2, k3, k4, hrng, hdat, hbyt⟩ := (hat t x hxt).below hg (below_call HBW1.out HST.out.bel (Nat.le_refl _))
        have HF := Lib.hid (fits_any x (by obtain ⟨a, c, h, _⟩ := hdat; exact ⟨a, c, h⟩) wr)
        have HRNG := Lib.hid hrng.2; have HDAT := Lib.hid hdat; have HBYT := Lib.hid hbyt; have HAT := Lib.hid (hat t x hxt); have HG := Lib.hid hg
        clear hat hxt hrng hdat hbyt hg
        unfold opT at HF
        cases hfit : fitsN x.1 with
        | false =>
          rw [hfit] at HF
          clear hfit
          go_wp2_with fail
          refine HF.out.mono ?_
          rintro e w4 ⟨rfl, hb4⟩
          have HL := Lib.hid (HST.out.below hb4)
          clear hb4
          go_wp2_with fail
          go_roundw
          case rel => exact ⟨t + 1, M, by omega, by omega, by go_num, HL.out⟩
          case measure => simp only [RowKit.intOf]; omega
        | true =>
          have hsz : x.1.path.size ≤ 300 ∧ x.1.old.size ≤ 300 ∧ x.1.data.length ≤ 4200 := by
            unfold fitsN at hfit
            simp only [Bool.and_eq_true, decide_eq_true_eq] at hfit
            exact ⟨hfit.1.1, hfit.1.2, hfit.2⟩
          have HSZ := Lib.hid hsz
          rw [hfit] at HF
          clear hfit hsz
          go_wp2_with fail
          refine HF.out.mono ?_
          rintro e w4 ⟨rfl, hb4⟩
          have hpl := HST.out.below hb4
          have HPB := Lib.hid (below_call HBW1.out hpl.bel (Nat.le_refl _))
          obtain ⟨F, vr, hl, hr, hbx, hnf, hbw⟩ := hpl
          have HLF := Lib.hid hl; have HRF := Lib.hid hr; have HBX := Lib.hid hbx; have HNF := Lib.hid hnf; have HBW := Lib.hid hbw
          obtain ⟨z0, z1, z2, z3, z4, -⟩ := HAT.out.below HG.out HPB.out
          have HD := Lib.hid (do_keep2 hl x (by have := HSZ.out.1; omega) (by have := HSZ.out.2.1; omega) (by have := HSZ.out.2.2; omega) HRNG.out (HDAT.out.src HPB.out) HBYT.out)
          unfold opT at HD
          clear hb4 HF k0 k1 k2 k3 k4 hl hr hbx hnf hbw
          go_wp2_with fail
          refine HD.out.mono ?_
          rintro e w5 ⟨rfl, F5, hl5, hfr5, hn5⟩
          have HL5 := Lib.hid hl5
          have hr5 : RefIs (fun b => (¬ F b ∧ b ≠ bx) ∧ b < w4.heap.size) w4 vr 21 (refM M) := HRF.out.mono fun b hb hd => ⟨hd, hb⟩
          have HR5 : Hid (RefIs (fun b => ¬ F5 b ∧ b ≠ bx) w5 vr 21 (refM M)) := Lib.hid ((hr5.fr hfr5 (fun b hb => hb.1.1)).mono fun b _ hd => ⟨hn5 b hd.2 hd.1.1, hd.1.2⟩)
          clear hr5
          have HBX5 := Lib.hid ((hfr5.block _ (blk_lt HBX.out) HNF.out).trans HBX.out)
          have HNF5 : Hid (¬ F5 bx) := Lib.hid (hn5 _ (blk_lt HBX.out) HNF.out)
          clear hl5 hfr5 hn5 HD z0 z1 z2 z3 z4
          obtain ⟨z0, z1, z2, z3, z4, -⟩ := HAT.out.below HG.out (below_call HBW1.out HL5.out.bel (Nat.le_refl _))
          have y0 := cell_blk_some HBX5.out (i := 0) rfl
          have y1 := free_blk (i := 0) HBX5.out
          obtain ⟨-, g1, c1, rfl, -⟩ := id HR5.out
          have HDO := Lib.hid (refDo_any (HR5.out.below (below_drewN (Below.refl _ w5) 1)) HLF.out.good x (by have := HSZ.out.1; omega) (by have := HSZ.out.2.1; omega) (by have := HSZ.out.2.2; omega) HRNG.out (HDAT.out.src (below_drewN (below_call HBW1.out HL5.out.bel (Nat.le_refl _)) 1)))
          unfold opT treeV at HDO
          go_wp2_with fail
          go_region_law
            (go_simp; go_at_call 10
             refine HDO.out.mono ?_
             rintro e w6 ⟨v6, rfl, hr6, hb6⟩
             obtain ⟨-, g6, c6, rfl, -⟩ := id hr6
             have HR6 := Lib.hid hr6
             have hb56 : Below w5.heap.size w5 w6 := (below_drewN (Below.refl _ w5) 1).trans hb6
             have HB6 := Lib.hid hb56
             have hbx6 := (hb56.block _ (blk_lt HBX5.out)).trans HBX5.out
             have HBX6 := Lib.hid hbx6
             have y2 := cell_blk_some hbx6 (i := 0) rfl
             have y3 := free_blk (i := 0) hbx6
             clear hr6 hb6 hb56 hbx6
             dsimp only)
          all_goals
            have hfs := (Fr.refl (fun b => b = bx) w6).setCell ⟨bx, 0, none⟩ rfl (.slice (some ⟨g6, 0, none⟩) 21 c6)
            have hl7 : LFt W1 (w6.setCell ⟨bx, 0, none⟩ (.slice (some ⟨g6, 0, none⟩) 21 c6)) tb 21 F5 (doN M 21 x.1).2.2 := (HL5.out.below HB6.out).other hfs (fun b hb => by have hb : b = bx := hb; rw [hb]; exact HBW.out) fun b hb e => HNF5.out (by have e : b = bx := e; rw [← e]; exact hb)
            have hr7 : RefIs (fun b => ¬ F5 b ∧ b ≠ bx) (w6.setCell ⟨bx, 0, none⟩ (.slice (some ⟨g6, 0, none⟩) 21 c6)) (.slice (some ⟨g6, 0, none⟩) 21 c6) 21 (refM (doN M 21 x.1).2.2) := (HR6.out.mono fun b _ hd => hd.elim id fun h => (by
              have h : w5.heap.size ≤ b := h
              exact ⟨fun hf => by have := HL5.out.lt b hf; omega, fun e => by have := blk_lt HBX5.out; omega⟩ : ¬ F5 b ∧ b ≠ bx)).store (fun h => h.2 rfl) _
            have hb7 : (w6.setCell ⟨bx, 0, none⟩ (.slice (some ⟨g6, 0, none⟩) 21 c6)).heap[bx]? = some (.cells #[.slice (some ⟨g6, 0, none⟩) 21 c6] 30 (0, 0)) := blk_set HBX6.out _
            have HP7 : Hid (Pl W1 (w6.setCell ⟨bx, 0, none⟩ (.slice (some ⟨g6, 0, none⟩) 21 c6)) tb bx 21 (doN M 21 x.1).2.2) := Lib.hid ⟨F5, _, hl7, hr7, hb7, HNF5.out, HBW.out⟩
            clear hfs hl7 hr7 hb7 y0 y1 y2 y3 z0 z1 z2 z3 z4 HDO
            generalize w6.setCell ⟨bx, 0, none⟩ (.slice (some ⟨g6, 0, none⟩) 21 c6) = w7 at *
            generalize doN M 21 x.1 = r at *
            go_wp2_with fail
            go_roundw
            case rel => exact ⟨t + 1, _, by omega, by omega, by go_num, HP7.out⟩
            case measure => simp only [RowKit.intOf]; omega
      · have hq : (decide ((t : Int) < (ops.length : Int)) && decide ((t : Int) < 40)) = false := by
          by_cases h1 : (t : Int) < (ops.length : Int)
          · rw [decide_eq_true h1, decide_eq_false (show ¬ (t : Int) < 40 by omega)]; rfl
          · rw [decide_eq_false h1]; rfl
        have HPB := Lib.hid (below_call HBW1.out HST.out.bel (Nat.le_refl _))
        have hw0 := (HST.out.bel.block _ (blk_lt HBX0.out)).trans HBX0.out
        obtain ⟨F, vr, hl, hr, hbx, hnf, hbw⟩ := HST.out
        obtain ⟨-, g1, c1, rfl, -⟩ := id hr
        have HALL : Hid (∀ wy, Below wr.heap.size wr wy → TAt wy tb 21 F M ∧ RefIs (fun b => ¬ F b ∧ b ≠ bx) wy (.slice (some ⟨g1, 0, none⟩) 21 c1) 21 (refM M) ∧ wy.cell? ⟨bx, 0, none⟩ = some (.slice (some ⟨g1, 0, none⟩) 21 c1) ∧ wy.cell? ⟨W.heap.size, 0, none⟩ = some (.int .i64 a) ∧ wy.cell? ⟨W.heap.size, 1, none⟩ = some (.int .i64 b)) :=
          Lib.hid fun wy h => ⟨hl.at_.below h, hr.below h, cell_blk_some ((h.block _ (blk_lt hbx)).trans hbx) rfl, cell_blk_some ((h.block _ (blk_lt hw0)).trans hw0) rfl, cell_blk_some ((h.block _ (blk_lt hw0)).trans hw0) rfl⟩
        have HG := Lib.hid hl.good
        obtain ⟨T1, -, -, e0, e1⟩ := HALL.out wr (Below.refl _ wr)
        have HS1 := Lib.hid (read_any T1 HG.out.1 s HS.out a b HRA.out HRB.out)
        clear hw0 hl hr hbx hnf hbw T1
        obtain ⟨xs, hxs⟩ : ∃ xs, xs = (readN M s a b).1 := ⟨_, rfl⟩
        obtain ⟨xq, hxq⟩ : ∃ xq, xq = (readN M s a b).2 := ⟨_, rfl⟩
        have HRR : Hid (∀ wz, RefIs (fun b => ¬ F b ∧ b ≠ bx) wz (.slice (some ⟨g1, 0, none⟩) 21 c1) 21 (refM M) → Calls Tryz.prog 13 #[.agg #[.slice (some ⟨g1, 0, none⟩) 21 c1], .string s, .int .i64 a, .int .i64 b] wz fun e w' => e = .returned (.tuple #[.string (strOfNums xs), .int .i64 xq]) ∧ Below wz.heap.size wz w') := Lib.hid fun wz h => by rw [hxs, hxq]; exact refRead_any h HG.out.1 s HS.out a b
        rw [← hxs, ← hxq] at HS1
        clear hxs hxq
        obtain ⟨si, kd, lk, sz, cd, hst⟩ : ∃ si kd lk sz cd, statN M s = ((si, kd, lk, sz), cd) := ⟨_, _, _, _, _, rfl⟩
        have HSTN := Lib.hid hst
        clear hst
        by_cases htl1 : t < ops.length
        all_goals
          first
            | (have r1 : decide ((t : Int) < (ops.length : Int)) = true := dec_true (by omega)
               have r2 : decide ((t : Int) < 40) = false := dec_false (by omega)
               have r3 : (t : Int) < (ops.length : Int) := by omega
               have r4 : ¬ (t : Int) < 40 := by omega
               clear hq htl htl1
               go_wp2_with fail)
            | (have r1 : decide ((t : Int) < (ops.length : Int)) = false := dec_false (by omega)
               have r3 : ¬ (t : Int) < (ops.length : Int) := by omega
               clear hq htl htl1
               go_wp2_with fail)
          refine HS1.out.mono ?_
          rintro e w1 ⟨v1, rfl, hown1, hb1⟩
          have HOW1 := Lib.hid hown1; have HB1 := Lib.hid hb1
          obtain ⟨-, R1, y0, e2, e3⟩ := HALL.out w1 hb1
          have HR2 := Lib.hid (HRR.out w1 R1)
          clear hown1 hb1 R1 HS1 HRR e0 e1
          go_wp2_with fail
          refine HR2.out.mono ?_
          rintro e w2 ⟨rfl, hb2⟩
          have HOW2 := Lib.hid (own_call HOW1.out hb2)
          have HB2 := Lib.hid (below_call HB1.out hb2 (Nat.le_refl _))
          obtain ⟨T2, -, -, -, -⟩ := HALL.out w2 HB2.out
          have HS3 := Lib.hid (stat_any T2 HG.out.1 s HS.out)
          rw [HSTN.out] at HS3
          unfold statV statA at HS3
          dsimp only at HS3
          clear hb2 HR2 HOW1 HB1 y0 e2 e3 T2
          go_wp2_with fail
          refine HS3.out.mono ?_
          rintro e w3 ⟨rfl, hb3⟩
          have hba3 := below_call hb3 ((Below.refl w3.heap.size w3).alloc (Nat.le_refl _) (.cells #[.int .i64 si, .int .i64 kd, .int .i64 lk, .int .i64 sz] 49)) (Nat.le_refl _)
          have hox3 : (w3.alloc (.cells #[.int .i64 si, .int .i64 kd, .int .i64 lk, .int .i64 sz] 49)).heap[w3.heap.size]? = some (.cells #[.int .i64 si, .int .i64 kd, .int .i64 lk, .int .i64 sz] 49 (0, 0)) := blk_new rfl
          have HOX3 := Lib.hid hox3
          have HB3 := Lib.hid (below_call HB2.out hba3 (Nat.le_refl _)); have HOW3 := Lib.hid (own_call HOW2.out hba3)
          obtain ⟨-, R3, y0, -, -⟩ := HALL.out _ HB3.out
          have HS4 := Lib.hid (refStat_any R3 HG.out.1 s HS.out)
          rw [HSTN.out] at HS4
          unfold statV statA treeV at HS4
          dsimp only at HS4
          clear hb3 hba3 hox3 HS3 HOW2 HB2 R3
          go_wp2_with fail
          generalize w3.alloc (.cells #[.int .i64 si, .int .i64 kd, .int .i64 lk, .int .i64 sz] 49) = W3 at *
          refine HS4.out.mono ?_
          rintro e w4 ⟨rfl, hb4⟩
          have hba4 := below_call hb4 ((Below.refl w4.heap.size w4).alloc (Nat.le_refl _) (.cells #[.int .i64 si, .int .i64 kd, .int .i64 lk, .int .i64 sz] 49)) (Nat.le_refl _)
          have hox4 : (w4.alloc (.cells #[.int .i64 si, .int .i64 kd, .int .i64 lk, .int .i64 sz] 49)).heap[w4.heap.size]? = some (.cells #[.int .i64 si, .int .i64 kd, .int .i64 lk, .int .i64 sz] 49 (0, 0)) := blk_new rfl
          have HOX4 := Lib.hid hox4; have HOX34 := Lib.hid ((hba4.block _ (blk_lt HOX3.out)).trans HOX3.out)
          have HB4 := Lib.hid (below_call HB3.out hba4 (Nat.le_refl _)); have HOW4 := Lib.hid (own_call HOW3.out hba4)
          obtain ⟨T4, -, -, -, -⟩ := HALL.out _ HB4.out
          have HS5 := Lib.hid (list_any T4 HG.out.1 HG.out.2 s HS.out)
          clear hb4 hba4 hox4 HS4 HOW3 HB3 T4 HOX3 y0
          go_wp2_with fail
          generalize w4.alloc (.cells #[.int .i64 si, .int .i64 kd, .int .i64 lk, .int .i64 sz] 49) = W4 at *
          refine HS5.out.mono ?_
          rintro e w5 ⟨v5, l5, rfl, hlo5, hown5, hb5⟩
          have HLO5 := Lib.hid hlo5; have HOWL := Lib.hid hown5
          have HB5 := Lib.hid (below_call HB4.out hb5 (Nat.le_refl _)); have HOW5 := Lib.hid (own_call HOW4.out hb5)
          have HOX35 := Lib.hid ((hb5.block _ (blk_lt HOX34.out)).trans HOX34.out); have HOX45 := Lib.hid ((hb5.block _ (blk_lt HOX4.out)).trans HOX4.out)
          obtain ⟨-, R5, y0, -, -⟩ := HALL.out _ HB5.out
          have HS6 := Lib.hid (refList_any R5 HG.out.1.ok s HS.out)
          unfold treeV at HS6
          clear hlo5 hown5 hb5 HS5 R5 HOW4 HB4 HOX34 HOX4
          go_wp2_with fail
          refine HS6.out.mono ?_
          rintro e w6 ⟨u6, l6, rfl, hlo6, hl6, hst6, hb6⟩
          obtain rfl := ListOf.eq hlo6 HLO5.out
          have HB6 := Lib.hid (below_call HB5.out hb6 (Nat.le_refl _))
          have how6 := own_call HOW5.out hb6
          have hcv := (SrcG.of_own how6 (u8s_one _)).str
          have hx3 := (hb6.block _ (blk_lt HOX35.out)).trans HOX35.out
          have hx4 := (hb6.block _ (blk_lt HOX45.out)).trans HOX45.out
          have i0 := cell_blk_some hx3 (i := 0) rfl
          have i1 := cell_blk_some hx3 (i := 1) rfl
          have i2 := cell_blk_some hx3 (i := 2) rfl
          have i3 := cell_blk_some hx3 (i := 3) rfl
          have j0 := cell_blk_some hx4 (i := 0) rfl
          have j1 := cell_blk_some hx4 (i := 1) rfl
          have j2 := cell_blk_some hx4 (i := 2) rfl
          have j3 := cell_blk_some hx4 (i := 3) rfl
          have HTX := Lib.hid (texts_any ((StrsAt.own HOWL.out).below hb6 |>.mono hb6.size) hst6 (Nat.le_refl _) (by omega) (by omega))
          rw [show decide (l6 = l6) = true from decide_eq_true rfl] at HTX
          clear hlo6 hst6 hb6 hx3 hx4 HS6 y0 how6
          generalize strOfNums xs = sx at *
          go_wp2_with fail
          refine HTX.out.mono ?_
          rintro e w7 ⟨rfl, hb7⟩
          have HB7 := Lib.hid (below_call HB6.out hb7 (Nat.le_refl _))
          clear hb7 HTX
          go_wp2_with fail
          go_ret
          exact ⟨rfl, below_call HPB.out HB7.out (Nat.le_refl _)⟩
end Go.Proofs.YtoofcnehoffllaaGreat

namespace Go.Proofs.YtoofcnehoffllaaGreat
open Go.RowKit Go.ChangeShapes Go.WideShapes Go.ChangeAt Go.Deep

theorem cell_i64 {P : Program} {w : World} {r : Reach} {base : Nat} {t : TypeId} {v : Value} (ht : P.underlying t = some (.int .i64)) (h : Cell.okWide P w r base t v) : ∃ n, v = .int .i64 n ∧ -9223372036854775808 ≤ n ∧ n ≤ 9223372036854775807 := by
  simp only [Cell.okWide, ht] at h
  cases v <;> simp_all [Cell.ok, IntKind.has, IntKind.min, IntKind.max, IntKind.signed, IntKind.bits] <;> omega
set_option maxRecDepth 100000 in
theorem arg_pair {w : World} {r : Reach} {base : Nat} {v : Value} (h : Value.okWide Tryz.prog w r base 43 v) : ∃ a b : Int, v = .agg #[.int .i64 a, .int .i64 b] ∧ (-9223372036854775808 ≤ a ∧ a ≤ 9223372036854775807) ∧ (-9223372036854775808 ≤ b ∧ b ≤ 9223372036854775807) := by
  have h' : ∃ cs, v = .agg cs ∧ cs.size = Tryz.prog.cellsOf 43 ∧ Row.okWide Tryz.prog w r base 43 cs := by
    simp only [Value.okWide, Tryz.underlying43] at h; exact h
  obtain ⟨cs, rfl, hc, ts', hts', _, hr⟩ := h'
  obtain rfl : ts' = List.replicate 2 3 := Option.some.inj (hts'.symm.trans (by kernel_rfl))
  have hc2 : cs.size = 2 := by rw [hc]; kernel_rfl
  obtain ⟨x, y, rfl⟩ : ∃ x y, cs = #[x, y] := by
    obtain ⟨l⟩ := cs
    have h2 : l.length = 2 := hc2
    match l, h2 with
    | [x, y], _ => exact ⟨x, y, rfl⟩
  · obtain ⟨u0, hu0, ho0⟩ := hr 0 x rfl
    obtain ⟨u1, hu1, ho1⟩ := hr 1 y rfl
    obtain rfl : 3 = u0 := Option.some.inj hu0
    obtain rfl : 3 = u1 := Option.some.inj hu1
    obtain ⟨a, rfl, ha⟩ := cell_i64 Tryz.underlying3 ho0
    obtain ⟨b, rfl, hb⟩ := cell_i64 Tryz.underlying3 ho1
    exact ⟨a, b, rfl, ha, hb⟩
end Go.Proofs.YtoofcnehoffllaaGreat
