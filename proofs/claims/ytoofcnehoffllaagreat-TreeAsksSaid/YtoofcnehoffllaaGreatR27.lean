/- Walk of tells: the code's tree and the reference's, side by side. -/
import Derived.Test.YtoofcnehoffllaaGreatR26
import Derived.Test.YtoofcnehoffllaaGreatR20
import Derived.Test.YtoofcnehoffllaaGreatR19
namespace Go.Proofs.YtoofcnehoffllaaGreat
open Go.RowKit

section
variable {D F : Nat → Prop} {w w' : World} {v : Value} {tb cap : Nat} {M : TM}
theorem TAt.below (h : TAt w tb cap F M) (hb : Below w.heap.size w w') : TAt w' tb cap F M := by
  obtain ⟨nb, P, E, V, hT, hF⟩ := h
  exact ⟨nb, P, E, V, hT.below hb, hF⟩
theorem stat_facts (hG : TG M cap) (s : ByteArray) : ((statN M s).1.2.1 = 2 → listC M s = 0) ∧ (0 ≤ (statN M s).1.2.2.2 ∧ (statN M s).1.2.2.2 ≤ 38400) ∧ ((statN M s).1.2.1 ≠ 2 → ∀ a, 0 ≤ a → a < (statN M s).1.2.2.2 → (readN M s a 4096).2 = 0 ∧ (readN M s a 4096).1.length ≤ 4096) := by
  unfold statN listC readN fileN
  cases lookN M s with
  | inr q => exact ⟨fun h => absurd (show (0 : Int) = 2 from h) (by decide), ⟨Int.le_refl _, (by decide : (0 : Int) ≤ 38400)⟩, fun _ a h0 h1 => absurd (show a < 0 from h1) (by omega)⟩
  | inl i =>
    have hb := (hG.byt i).1
    refine ⟨fun h => ?_, ⟨by show (0 : Int) ≤ ((datN M i).length : Int); omega, by show ((datN M i).length : Int) ≤ 38400; omega⟩, fun h a h0 h1 => ?_⟩
    · have h : (if isDir M i = true then (2 : Int) else 1) = 2 := h
      show (if isDir M i = true then (0 : Int) else 20) = 0
      cases hd : isDir M i with
      | true => rfl
      | false => rw [hd] at h; exact absurd h (by decide)
    · have h : ¬ (if isDir M i = true then (2 : Int) else 1) = 2 := h
      cases hd : isDir M i with
      | true => rw [hd] at h; exact absurd rfl h
      | false =>
        show (match (if isDir M i = true then (Sum.inr 21 : Nat ⊕ Int) else Sum.inl i) with | .inr c => (([] : List Int), c) | .inl i => if a < 0 ∨ (4096 : Int) < 0 ∨ (4096 : Int) < 4096 then ([], 22) else (((datN M i).drop a.toNat).take (4096 : Int).toNat, 0)).2 = 0 ∧ (match (if isDir M i = true then (Sum.inr 21 : Nat ⊕ Int) else Sum.inl i) with | .inr c => (([] : List Int), c) | .inl i => if a < 0 ∨ (4096 : Int) < 0 ∨ (4096 : Int) < 4096 then ([], 22) else (((datN M i).drop a.toNat).take (4096 : Int).toNat, 0)).1.length ≤ 4096
        rw [hd, if_neg (by decide)]
        dsimp only
        rw [if_neg (by omega)]
        exact ⟨rfl, by rw [List.length_take]; show min 4096 _ ≤ 4096; omega⟩
theorem ListOf.eq {s : ByteArray} {l m : List ByteArray} (h : ListOf M s l) (h' : ListOf M s m) : l = m := by
  unfold ListOf at h h'
  cases hq : lookN M s with
  | inr q => rw [hq] at h h'; exact h.trans h'.symm
  | inl i =>
    rw [hq] at h h'
    dsimp only at h h'
    cases hd : isDir M i with
    | true => rw [if_pos hd] at h h'; exact ListIs.eq h h'
    | false => rw [if_neg (by rw [hd]; decide)] at h h'; exact h.trans h'.symm
/-- The row's block, all of bytes. -/
theorem byteRow_any {w : World} {B n c : Nat} {a : Option Addr} {l : List Value} (h : w.ownsRow B 5 1 (.slice a n c) n l) (hl : ∀ u ∈ l, ∃ z, u = .int .u8 z) : ∃ g, B ≤ g ∧ ByteRow w g n a := by
  rcases h.2 with ⟨_, hn⟩ | ⟨g, cap, cur, he, hb, hg, hc, _, hs, ht⟩
  · exact ⟨B, Nat.le_refl _, .inl hn⟩
  · obtain ⟨h1, -, -⟩ := Value.slice.inj he
    refine ⟨g, hb, .inr ⟨h1, cur, hg, fun j hj => ?_⟩⟩
    have hln := h.1
    obtain ⟨u, hu⟩ : ∃ u, l[j]? = some u := ⟨_, List.getElem?_eq_getElem (by omega)⟩
    obtain ⟨z, rfl⟩ := hl u (List.mem_of_getElem? hu)
    rw [← ht, List.getElem?_take, if_pos (by omega), Array.getElem?_toList] at hu
    exact ⟨z, hu⟩
theorem walk_size (hG : Good M cap) {l : List ByteArray} (h : WalkIs M l) : ∀ s ∈ l, s.size ≤ 255 := by
  obtain ⟨-, LL, hL, hp⟩ := h
  intro s hs
  obtain ⟨lp, hlp, rfl⟩ := List.mem_map.1 (hp.mem_iff.1 hs)
  obtain ⟨h1, h2⟩ := (hL.2 lp).1 hlp
  obtain ⟨j, hj⟩ := Option.isSome_iff_exists.1 h2
  rw [pathAt_of hj]
  exact hG.2.size h1 hj
/-- What the two trees have in common at a world. -/
structure Tw (D F : Nat → Prop) (w wy : World) (v : Value) (tb cap : Nat) (M : TM) : Prop where
  code : TAt wy tb cap F M
  ref : RefIs D wy v cap (refM M)
  box : wy.heap[w.heap.size]? = some (.cells #[v] 30 (0, 0))
theorem Tw.below {wy wz : World} (h : Tw D F w wy v tb cap M) (hb : Below wy.heap.size wy wz) : Tw D F w wz v tb cap M :=
  ⟨h.code.below hb, h.ref.below hb, (hb.block _ (blk_lt h.box)).trans h.box⟩
theorem Tw.c0 {wy : World} (h : Tw D F w wy v tb cap M) : wy.cell? ⟨w.heap.size, 0, none⟩ = some v := cell_blk_some h.box rfl
set_option maxHeartbeats 8000000 in
set_option maxRecDepth 100000 in
theorem tells_any (hT : TAt w tb cap F M) (hG : Good M cap) (hR : RefIs D w v cap (refM M)) :
    Calls Tryz.prog 11 #[.pointer (some ⟨tb, 0, none⟩), treeV v] w fun e w' => e = .returned (.bool true) ∧ Below w.heap.size w w' := by
  obtain ⟨g, c, hvv, hD, hg, hn⟩ := hR.at_
  subst hvv
  obtain ⟨hb0, hx0⟩ := top_new w (.slice (some ⟨g, 0, none⟩) cap c)
  have HTW0 := Lib.hid (show Tw D F w _ (.slice (some ⟨g, 0, none⟩) cap c) tb cap M from ⟨hT.below hb0, hR.below hb0, hx0⟩)
  have HB0 := Lib.hid hb0
  have HG := Lib.hid hG
  have HW := Lib.hid (refWalk_any HTW0.out.ref hG)
  clear hT hR hG hn hb0 hx0
  unfold treeV at HW ⊢
  go_enter Tryz.func11, Tryz.ntmps11
  go_wp2_with fail
  generalize w.alloc (.cells #[.slice (some ⟨g, 0, none⟩) cap c] 30) = W0 at *
  refine HW.out.mono ?_
  rintro e w1 ⟨u, l, rfl, hwk, hll, hown, hb1⟩
  have HWK := Lib.hid hwk; have HLL := Lib.hid hll; have HOW := Lib.hid hown
  have HTW1 := Lib.hid (HTW0.out.below hb1)
  have HB1 := Lib.hid (below_call HB0.out hb1 (Nat.le_refl _))
  have HB01 := Lib.hid hb1
  have HW2 := Lib.hid (walk_any HTW1.out.code HG.out.1 HG.out.2)
  clear hwk hll hown hb1 HW
  go_wp2_with fail
  refine HW2.out.mono ?_
  rintro e w2 ⟨v2, l2, rfl, hwk2, hll2, hown2, hb2⟩
  obtain rfl := WalkIs.eq hwk2 HWK.out
  have HTW2 := Lib.hid (HTW1.out.below hb2)
  have HB2 := Lib.hid (below_call HB1.out hb2 (Nat.le_refl _))
  have HB02 := Lib.hid (below_call HB01.out hb2 (Nat.le_refl _))
  have HOW2 := Lib.hid (own_call HOW.out hb2)
  have HTX := Lib.hid (texts_any (StrsAt.own hown2) (StrsAt.own HOW2.out) (Nat.le_refl _) (by have := HLL.out; omega) (by have := HLL.out; omega))
  rw [show decide (l2 = l2) = true from decide_eq_true rfl] at HTX
  clear hwk2 hll2 hown2 hb2 HW2 HOW
  go_wp2_with fail
  refine HTX.out.mono ?_
  rintro e w3 ⟨rfl, hb3⟩
  have HTW3 := Lib.hid (HTW2.out.below hb3)
  have HB3 := Lib.hid (below_call HB2.out hb3 (Nat.le_refl _))
  have HB03 := Lib.hid (below_call HB02.out hb3 (Nat.le_refl _))
  have HOW3 := Lib.hid (own_call HOW2.out hb3)
  have HOA : Hid ((w3.alloc (.cells #[.string ⟨#[47]⟩] 9 (0, 0))).ownsRow W0.heap.size 9 1 u l2.length (l2.map Value.string)) := Lib.hid (own_frame HOW3.out (S := fun _ => False) ((Fr.refl (fun _ => False) w3).alloc _) fun _ _ => id)
  have HSX := Lib.hid (srcSt w3 ⟨#[47]⟩)
  clear hb3 HTX HOW2
  go_wp2_with (refine wpList_append_g (by rfl) (.tmp 29) (.tmp 30) (by rfl) elStrR (by rfl) HOA.out (by rfl) HSX.out (by have := HLL.out; unfold maxLen; omega) (by have := HLL.out; omega) (Nat.le_trans HB03.out.size ((Fr.refl (fun _ => False) w3).alloc (.cells #[.string ⟨#[47]⟩] 9 (0, 0))).size) ?_)
  rintro v4 w4 h2 h3 -
  have hN : (l2 ++ [(⟨#[47]⟩ : ByteArray)]).length = l2.length + 1 := by rw [List.length_append, List.length_singleton]
  obtain ⟨X, hX⟩ : ∃ X, X = l2 ++ [(⟨#[47]⟩ : ByteArray)] := ⟨_, rfl⟩
  have HXS : Hid (∀ s ∈ X, s.size ≤ 255) := Lib.hid fun s hs => by
    rw [hX] at hs
    rcases List.mem_append.1 hs with h | h
    · exact walk_size HG.out HWK.out s h
    · rw [List.mem_singleton.1 h]; decide
  have ho4 : w4.ownsRow W0.heap.size 9 1 v4 X.length (X.map Value.string) := by rw [hX, hN, List.map_append]; exact h2
  have hXl : X.length ≤ 20101 := by rw [hX, hN]; have := HLL.out; omega
  have hXp : 0 < X.length := by rw [hX, hN]; omega
  obtain ⟨N, hNN⟩ : ∃ N, X.length = N := ⟨_, rfl⟩
  have HNN := Lib.hid hNN
  rw [hNN] at ho4 hXl hXp
  obtain ⟨gp, cp, rfl, hcp, hgB, hgl, hcell⟩ := own_cells ho4 hXp
  have hb4 : Below W0.heap.size W0 w4 := HB03.out.trans ((((Fr.refl _ w3).alloc _).trans h3).toBelow HB03.out.size fun y hy => (World.ownsRow.lt HOW3.out y hy).1)
  have HB04 := Lib.hid hb4; have HOX := Lib.hid ho4; have HXL := Lib.hid hXl
  clear hNN h2 h3 hN hX ho4 hcp hgB hgl hcell hb4 HOA HSX HOW3 HB03 HTW3 HTW2 HTW1 HB01 HB02 HB1 HB2 HB3
  go_wp2_with fail
  go_loopw [33] (fun kv wy => ∃ k : Nat, k ≤ N ∧ kv = .int .i64 k ∧ Below W0.heap.size W0 wy ∧ wy.ownsRow W0.heap.size 9 1 (.slice (some ⟨gp, 0, none⟩) N cp) N (X.map Value.string)) (fun kv _ => N - (RowKit.intOf kv).toNat)
  case atStart => exact ⟨0, by omega, rfl, HB04.out, HOX.out⟩
  case round =>
    obtain ⟨k, hk, rfl, hby, hox⟩ := hrel
    have HBY := Lib.hid hby; have HOY := Lib.hid hox
    clear hby hox HOX HB04
    by_cases hlt : k < N
    · obtain ⟨p, hp⟩ : ∃ p, X[k]? = some p := ⟨_, List.getElem?_eq_getElem (by rw [HNN.out]; exact hlt)⟩
      have c1 : wr.cell? ⟨gp, k, none⟩ = some (.string p) := by
        obtain ⟨g', c', he', -, -, -, hc⟩ := own_cells HOY.out (by omega)
        obtain ⟨h1, -, -⟩ := Value.slice.inj he'
        have hg' : gp = g' := by injection h1 with h1; injection h1
        subst hg'
        exact hc k _ (by rw [List.getElem?_map, hp]; rfl)
      have hps := HXS.out p (List.mem_of_getElem? hp)
      have k0 : (0 : Int) ≤ (k : Int) := by omega
      have k1 : (k : Int) < (N : Int) := by omega
      have HTWr := Lib.hid (HTW0.out.below HBY.out)
      have HS1 := Lib.hid (stat_any HTWr.out.code HG.out.1 p (by omega))
      obtain ⟨hf1, hf2, hf3⟩ := stat_facts HG.out.1 p
      have HF1 := Lib.hid hf1; have HF3 := Lib.hid hf3
      clear hp hf1 hf3
      obtain ⟨si, kd, lk, sz, cd, hst⟩ : ∃ si kd lk sz cd, statN M p = ((si, kd, lk, sz), cd) := ⟨_, _, _, _, _, rfl⟩
      rw [hst] at HS1 hf2 HF1 HF3
      unfold statV statA at HS1
      dsimp only at HS1 hf2 HF1 HF3
      go_wp2_with fail
      refine HS1.out.mono ?_
      rintro e w5 ⟨rfl, hb5⟩
      have HX5 : Hid ((w5.alloc (.cells #[.int .i64 si, .int .i64 kd, .int .i64 lk, .int .i64 sz] 49)).heap[w5.heap.size]? = some (.cells #[.int .i64 si, .int .i64 kd, .int .i64 lk, .int .i64 sz] 49 (0, 0))) := Lib.hid (blk_new rfl)
      have hbr5 : Below wr.heap.size wr (w5.alloc (.cells #[.int .i64 si, .int .i64 kd, .int .i64 lk, .int .i64 sz] 49)) := below_call hb5 ((Below.refl w5.heap.size w5).alloc (Nat.le_refl _) _) (Nat.le_refl _)
      have HBR5 := Lib.hid hbr5
      have HTW5 := Lib.hid (HTWr.out.below hbr5)
      have q0 := HTW5.out.c0
      have HS2 := Lib.hid (refStat_any HTW5.out.ref HG.out.1 p (by omega))
      rw [hst] at HS2
      unfold statV statA treeV at HS2
      dsimp only at HS2
      have HL5 := Lib.hid hb5.size
      clear hb5 hbr5 HS1 c1
      go_wp2_with fail
      generalize w5.alloc (.cells #[.int .i64 si, .int .i64 kd, .int .i64 lk, .int .i64 sz] 49) = W5 at *
      refine HS2.out.mono ?_
      rintro e w6 ⟨rfl, hb6⟩
      have hbr6 : Below W5.heap.size W5 (w6.alloc (.cells #[.int .i64 si, .int .i64 kd, .int .i64 lk, .int .i64 sz] 49)) := below_call hb6 ((Below.refl w6.heap.size w6).alloc (Nat.le_refl _) _) (Nat.le_refl _)
      have hx5 := (hbr6.block _ (blk_lt HX5.out)).trans HX5.out
      have hx6 : (w6.alloc (.cells #[.int .i64 si, .int .i64 kd, .int .i64 lk, .int .i64 sz] 49)).heap[w6.heap.size]? = some (.cells #[.int .i64 si, .int .i64 kd, .int .i64 lk, .int .i64 sz] 49 (0, 0)) := blk_new rfl
      have HBR6 := Lib.hid (below_call HBR5.out hbr6 (Nat.le_refl _))
      have HTW6 := Lib.hid (HTW5.out.below hbr6)
      have a0 := cell_blk_some hx5 (i := 0) rfl
      have a1 := cell_blk_some hx5 (i := 1) rfl
      have a2 := cell_blk_some hx5 (i := 2) rfl
      have a3 := cell_blk_some hx5 (i := 3) rfl
      have HX56 := Lib.hid hx5
      clear hb6 hbr6 hx5 hx6 HS2 HX5 q0
      by_cases hk2 : kd = 2
      · subst hk2
        have hlc := HF1.out rfl
        have HLI := Lib.hid (list_any HTW6.out.code HG.out.1 HG.out.2 p (by omega))
        rw [hlc] at HLI
        have HLC := Lib.hid hlc
        clear hlc HF1 HF3
        go_wp2_with fail
        generalize w6.alloc (.cells #[.int .i64 si, .int .i64 2, .int .i64 lk, .int .i64 sz] 49) = W6 at *
        refine HLI.out.mono ?_
        rintro e w7 ⟨v7, l7, rfl, hlo7, hown7, hb7⟩
        have HLO7 := Lib.hid hlo7; have HOW7 := Lib.hid hown7
        have HTW7 := Lib.hid (HTW6.out.below hb7)
        have HBR7 := Lib.hid (below_call HBR6.out hb7 (Nat.le_refl _))
        have q0 := HTW7.out.c0
        have HRL := Lib.hid (refList_any HTW7.out.ref HG.out.1.ok p (by omega))
        rw [HLC.out] at HRL
        unfold treeV at HRL
        clear hlo7 hown7 hb7 HLI a0 a1 a2 a3
        go_wp2_with fail
        refine HRL.out.mono ?_
        rintro e w8 ⟨u8, l8, rfl, hlo8, hl8, hst8, hb8⟩
        obtain rfl := ListOf.eq hlo8 HLO7.out
        have HBR8 := Lib.hid (below_call HBR7.out hb8 (Nat.le_refl _))
        have HTX := Lib.hid (texts_any ((StrsAt.own HOW7.out).below hb8 |>.mono hb8.size) hst8 (Nat.le_refl _) (by omega) (by omega))
        rw [show decide (l8 = l8) = true from decide_eq_true rfl] at HTX
        clear hlo8 hst8 hb8 HRL q0
        go_wp2_with fail
        refine HTX.out.mono ?_
        rintro e w9 ⟨rfl, hb9⟩
        have HBR9 := Lib.hid (below_call HBR8.out hb9 (Nat.le_refl _))
        have HBE := Lib.hid (below_call HBY.out HBR9.out (Nat.le_refl _))
        have HOE := Lib.hid (own_call HOY.out HBR9.out)
        clear hb9 HTX
        go_wp2_with fail
        go_roundw
        case rel => exact ⟨k + 1, by omega, by go_num, HBE.out, HOE.out⟩
        case measure => simp only [RowKit.intOf]; omega
      · have hkf : (kd == 2) = false := by simp [hk2]
        have HF4 := Lib.hid (HF3.out hk2)
        clear HF1 HF3 hk2
        go_wp2_with fail
        generalize w6.alloc (.cells #[.int .i64 si, .int .i64 kd, .int .i64 lk, .int .i64 sz] 49) = W6 at *
        obtain ⟨hz0, hz1⟩ := hf2
        clear a0 a1 a2 a3
        go_loopw [16] (fun av wy => ∃ j : Nat, av = .int .i64 ((j * 4096 : Nat) : Int) ∧ j ≤ 10 ∧ Below W6.heap.size W6 wy) (fun av _ => 50000 - (RowKit.intOf av).toNat)
        case atStart => exact ⟨0, rfl, by omega, Below.refl _ _⟩
        case round =>
          obtain ⟨j, rfl, hj, hbj⟩ := hrel
          have HBJ := Lib.hid hbj
          have d3 : wr.cell? ⟨w5.heap.size, 3, none⟩ = some (.int .i64 sz) := cell_blk_some ((hbj.block _ (blk_lt HX56.out)).trans HX56.out) rfl
          have HTWJ := Lib.hid (HTW6.out.below hbj)
          obtain ⟨at_, hat⟩ : ∃ at_ : Int, at_ = ((j * 4096 : Nat) : Int) := ⟨_, rfl⟩
          rw [← hat]
          have at0 : 0 ≤ at_ := by omega
          have HAT := Lib.hid hat
          clear hbj hat
          by_cases hjs : at_ < sz
          · obtain ⟨hc0, hcl⟩ := HF4.out at_ at0 hjs
            have HRD := Lib.hid (read_any HTWJ.out.code HG.out.1 p (by omega) at_ 4096 (by omega) (by omega))
            have HRR := fun (wz : World) (h : RefIs D wz (.slice (some ⟨g, 0, none⟩) cap c) cap (refM M)) => refRead_any h HG.out.1 p (by omega) at_ 4096
            rw [hc0] at HRD
            simp only [hc0] at HRR
            generalize (readN M p at_ 4096).1 = x at *
            have HRR := Lib.hid HRR
            have HCL := Lib.hid hcl
            clear hc0 hcl
            go_wp2_with fail
            refine HRD.out.mono ?_
            rintro e w7 ⟨v7, rfl, hown7, hb7⟩
            have HOW7 := Lib.hid hown7
            have HTW7 := Lib.hid (HTWJ.out.below hb7)
            have HB7 := Lib.hid hb7
            have q0 := HTW7.out.c0
            have HR2 := Lib.hid (HRR.out _ HTW7.out.ref)
            unfold treeV at HR2
            clear hown7 hb7 HRD HRR d3
            go_wp2_with fail
            refine HR2.out.mono ?_
            rintro e w8 ⟨rfl, hb8⟩
            have hown8 := own_call HOW7.out hb8
            have hcv := (SrcG.of_own hown8 (u8s_one _)).str
            obtain ⟨va, vc, rfl⟩ := own_shape hown8
            obtain ⟨gb, hgb, hrow⟩ := byteRow_any hown8 (fun u hu => by
              unfold u8s at hu
              obtain ⟨z, _, rfl⟩ := List.mem_map.1 hu
              exact ⟨z, rfl⟩)
            have HB8 := Lib.hid (below_call HB7.out hb8 (Nat.le_refl _))
            have HROW := Lib.hid hrow; have HGB := Lib.hid hgb
            have hcl := HCL.out
            clear hown8 hb8 hrow hgb HR2 q0 HOW7
            generalize strOfNums x = xs at *
            generalize x.length = n at *
            go_wp2_with fail
            go_loopw [110] (fun iv wz => ∃ q : Nat, q ≤ n ∧ iv = .int .i64 q ∧ Below wr.heap.size wr wz ∧ ByteRow wz gb n va) (fun iv _ => n - (RowKit.intOf iv).toNat)
            case atStart => exact ⟨0, Nat.zero_le _, rfl, HB8.out, HROW.out⟩
            case round =>
              obtain ⟨q, hq, rfl, hbq, hrw⟩ := hrel
              have HBQ := Lib.hid hbq
              clear hbq HROW
              by_cases hlq : q < n
              · rcases hrw with h0 | ⟨rfl, cur, hbb, hz⟩
                · omega
                · obtain ⟨z, hz1⟩ := hz q hlq
                  have e1 := cell_blk_some hbb hz1
                  have f1 := free_blk (i := q) hbb
                  have hnew := blk_set (i := q) hbb (.int .u8 (IntKind.u8.wrap (z + 1)))
                  have hks : q < cur.size := (Array.getElem?_eq_some_iff.1 hz1).1
                  have hz2 : ∀ j, j < n → ∃ z', (cur.setIfInBounds q (.int .u8 (IntKind.u8.wrap (z + 1))))[j]? = some (.int .u8 z') := fun j hj => by
                    by_cases hkj : q = j
                    · subst hkj
                      exact ⟨_, by rw [Array.getElem?_setIfInBounds, if_pos rfl, if_pos hks]⟩
                    · rw [Array.getElem?_setIfInBounds, if_neg hkj]
                      exact hz j hj
                  have m1 : (q : Int) < (n : Int) := by omega
                  have m2 : (0 : Int) ≤ (q : Int) := by omega
                  have HN := Lib.hid hnew; have HZ := Lib.hid hz2
                  clear hbb hz hz1 hnew hz2 hks
                  go_wp2_with fail
                  go_roundw
                  case rel => exact ⟨q + 1, by omega, by go_num, HBQ.out.setCell (p := ⟨gb, q, none⟩) HGB.out _, .inr ⟨rfl, _, HN.out, HZ.out⟩⟩
                  case measure => simp [RowKit.intOf]; omega
              · obtain rfl : q = n := by omega
                have HBN := Lib.hid (below_call HBJ.out HBQ.out (Nat.le_refl _))
                have t0 : at_ + 4096 ≤ 50000 := by omega
                clear hrw
                go_wp2_with fail
                have hj2 := HAT.out
                exact ⟨⟨j + 1, by rw [show at_ + 4096 = (((j + 1) * 4096 : Nat) : Int) by omega], by omega, HBN.out⟩, by simp only [RowKit.intOf]; omega⟩
          · go_wp2_with fail
            have HBW := Lib.hid (below_call HBR6.out HBJ.out (Nat.le_refl _))
            have HBE := Lib.hid (below_call HBY.out HBW.out (Nat.le_refl _))
            have HOE := Lib.hid (own_call HOY.out HBW.out)
            exact ⟨⟨k + 1, by omega, by go_num, HBE.out, HOE.out⟩, by simp only [RowKit.intOf]; omega⟩
    · obtain rfl : k = N := by omega
      go_wp2_with fail
      go_ret
      exact ⟨rfl, below_call HB0.out HBY.out (Nat.le_refl _)⟩
end
end Go.Proofs.YtoofcnehoffllaaGreat
