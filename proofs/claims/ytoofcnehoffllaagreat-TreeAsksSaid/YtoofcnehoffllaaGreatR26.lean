/- The reference's Do: a call of a script (printed by tools/genrefdo.py). -/
/- Walk of the reference's New. -/
import Derived.Test.YtoofcnehoffllaaGreatR24
import Derived.Test.YtoofcnehoffllaaGreatR17
import Derived.Test.YtoofcnehoffllaaGreatT48
import Derived.Laws.MakeOwn
namespace Go.Proofs.YtoofcnehoffllaaGreat
open Go.RowKit

/-- The three blocks of a call of Do. -/
structure DFr (w wy : World) (tv : Value) (oc : Array Value) : Prop where
  bel : Below w.heap.size w wy
  top : wy.heap[w.heap.size]? = some (.cells #[tv] 30 (0, 0))
  op : wy.heap[w.heap.size + 1]? = some (.cells oc 36 (0, 0))
  res : wy.heap[w.heap.size + 2]? = some (.cells #[.slice none 0 0] 30 (0, 0))
def D3 (D : Nat → Prop) (w : World) : Nat → Prop := fun b => (D b ∧ b < w.heap.size) ∨ w.heap.size + 3 ≤ b
section
variable {D : Nat → Prop} {w wy w' : World} {tv v u : Value} {oc : Array Value} {cap : Nat} {K : RM} {M : TM}
theorem DFr.start (w : World) (tv : Value) (oc : Array Value) : DFr w (((w.alloc (.cells #[tv] 30 (0, 0))).alloc (.cells oc 36 (0, 0))).alloc (.cells #[.slice none 0 0] 30 (0, 0))) tv oc := by
  obtain ⟨h1, h2, h3, h4⟩ := two_new w (.cells #[tv] 30 (0, 0)) (.cells oc 36 (0, 0))
  have hb := (Below.refl _ ((w.alloc (.cells #[tv] 30 (0, 0))).alloc (.cells oc 36 (0, 0)))).alloc (Nat.le_refl _) (.cells #[.slice none 0 0] 30 (0, 0))
  refine ⟨below_call h1 hb (Nat.le_refl _), (hb.block _ (blk_lt h2)).trans h2, (hb.block _ (blk_lt h3)).trans h3, ?_⟩
  rw [← h4]
  exact blk_new rfl
/-- The answer is the argument itself. -/
theorem DFr.ret0 {D : Nat → Prop} {cap : Nat} {K : RM} (w : World) (oc : Array Value) (v : Value) (h : RefIs D w v cap K) : (((w.alloc (.cells #[v] 30 (0, 0))).alloc (.cells oc 36 (0, 0))).alloc (.cells #[v] 30 (0, 0))).heap[w.heap.size + 2]? = some (.cells #[v] 30 (0, 0)) ∧ RefIs (fun b => D b ∨ w.heap.size ≤ b) (((w.alloc (.cells #[v] 30 (0, 0))).alloc (.cells oc 36 (0, 0))).alloc (.cells #[v] 30 (0, 0))) v cap K ∧ Below w.heap.size w (((w.alloc (.cells #[v] 30 (0, 0))).alloc (.cells oc 36 (0, 0))).alloc (.cells #[v] 30 (0, 0))) := by
  obtain ⟨h1, h2, h3, h4⟩ := two_new w (.cells #[v] 30 (0, 0)) (.cells oc 36 (0, 0))
  have hb := (Below.refl _ ((w.alloc (.cells #[v] 30 (0, 0))).alloc (.cells oc 36 (0, 0)))).alloc (Nat.le_refl _) (.cells #[v] 30 (0, 0))
  have hbw := below_call h1 hb (Nat.le_refl _)
  refine ⟨?_, (h.below hbw).mono fun b _ hd => .inl hd, hbw⟩
  rw [← h4]
  exact blk_new rfl
theorem DFr.below (h : DFr w wy tv oc) (hb : Below wy.heap.size wy w') : DFr w w' tv oc :=
  ⟨below_call h.bel hb (Nat.le_refl _), (hb.block _ (blk_lt h.top)).trans h.top, (hb.block _ (blk_lt h.op)).trans h.op, (hb.block _ (blk_lt h.res)).trans h.res⟩
theorem DFr.size (h : DFr w wy tv oc) : w.heap.size + 3 ≤ wy.heap.size := by have := blk_lt h.res; omega
theorem DFr.c0 (h : DFr w wy tv oc) : wy.cell? ⟨w.heap.size, 0, none⟩ = some tv := cell_blk_some h.top rfl
theorem DFr.f0 (h : DFr w wy tv oc) : wy.frozen? ⟨w.heap.size, 0, none⟩ = false := free_blk h.top
theorem DFr.c2 (h : DFr w wy tv oc) : wy.cell? ⟨w.heap.size + 2, 0, none⟩ = some (.slice none 0 0) := cell_blk_some h.res rfl
theorem DFr.f2 (h : DFr w wy tv oc) : wy.frozen? ⟨w.heap.size + 2, 0, none⟩ = false := free_blk h.res
theorem DFr.set (h : DFr w wy tv oc) (v : Value) : DFr w (wy.setCell ⟨w.heap.size, 0, none⟩ v) v oc := by
  have hf := (Fr.refl (fun b => b = w.heap.size) wy).setCell ⟨w.heap.size, 0, none⟩ rfl v
  exact ⟨h.bel.trans (hf.toBelow h.bel.size fun x hx => by omega), blk_set h.top _, (hf.block _ (blk_lt h.op) (by omega)).trans h.op, (hf.block _ (blk_lt h.res) (by omega)).trans h.res⟩
theorem RefIs.set3 (h : RefIs (D3 D w) wy v cap K) (u : Value) : RefIs (D3 D w) (wy.setCell ⟨w.heap.size, 0, none⟩ u) v cap K := h.store (by unfold D3; omega) u
theorem RefIs.three (h : RefIs D w v cap K) : RefIs (D3 D w) w v cap K := h.mono fun _ hb hd => .inl ⟨hd, hb⟩
theorem RefIs.next3 (h : RefIs (fun b => D3 D w b ∨ wy.heap.size ≤ b) w' v cap K) (hf : DFr w wy tv oc) : RefIs (D3 D w) w' v cap K := h.mono fun b _ hb => hb.elim id fun h => .inr (by have := hf.size; omega)
theorem DFr.ret (h : DFr w wy tv oc) (hr : RefIs (D3 D w) wy v cap K) : (wy.setCell ⟨w.heap.size + 2, 0, none⟩ v).heap[w.heap.size + 2]? = some (.cells #[v] 30 (0, 0)) ∧ RefIs (fun b => D b ∨ w.heap.size ≤ b) (wy.setCell ⟨w.heap.size + 2, 0, none⟩ v) v cap K ∧ Below w.heap.size w (wy.setCell ⟨w.heap.size + 2, 0, none⟩ v) := by
  have hf := (Fr.refl (fun b => b = w.heap.size + 2) wy).setCell ⟨w.heap.size + 2, 0, none⟩ rfl v
  refine ⟨blk_set h.res _, (hr.store (by unfold D3; omega) v).mono fun b _ hb => hb.elim (fun h => .inl h.1) fun h => .inr (by omega), h.bel.trans (hf.toBelow h.bel.size fun x hx => by omega)⟩
end
section
variable {D : Nat → Prop} {w : World} {v : Value} {cap : Nat} {M : TM}
set_option maxHeartbeats 8000000 in
set_option maxRecDepth 100000 in
theorem refDo_any (h : RefIs D w v cap (refM M)) (hG : Good M cap) (x : TOp × Value) (hp : x.1.path.size ≤ 1000000) (ho : x.1.old.size ≤ 1000000) (hl : x.1.data.length ≤ 1000000) (hr : -9223372036854775808 ≤ x.1.at_ ∧ x.1.at_ ≤ 9223372036854775807)
    (hsrc : SrcG 1 w x.2 x.1.data.length (u8s x.1.data)) :
    Calls Tryz.prog 10 #[treeV v, opT x] w fun e w' => ∃ v', e = .returned (.tuple #[treeV v', .int .i64 (doN M cap x.1).1, .int .i64 (doN M cap x.1).2.1]) ∧ RefIs (fun b => D b ∨ w.heap.size ≤ b) w' v' cap (refM (doN M cap x.1).2.2) ∧ Below w.heap.size w w' := by
  obtain ⟨⟨kind, path, old, at_, data⟩, dv⟩ := x
  obtain ⟨g, c, hvv, hD, hg, hn⟩ := h.at_
  subst hvv
  unfold opT
  dsimp only at hp ho hl hr hsrc ⊢
  have hF0 := DFr.start w (.slice (some ⟨g, 0, none⟩) cap c) #[.int .i64 kind, .string path, .string old, .int .i64 at_, dv]
  have HF0 := Lib.hid hF0
  have hR := h.three.below hF0.bel
  have HR0 := Lib.hid hR; have HH := Lib.hid h
  have b0 := cell_blk_some hF0.op (i := 0) rfl
  have b1 := cell_blk_some hF0.op (i := 1) rfl
  have b2 := cell_blk_some hF0.op (i := 2) rfl
  have b3 := cell_blk_some hF0.op (i := 3) rfl
  have b4 := cell_blk_some hF0.op (i := 4) rfl
  have a0 := hF0.c0
  have HCV := Lib.hid ((hsrc.below hF0.bel).str)
  unfold treeV
  clear h hn hsrc
  by_cases h1 : kind = 1
  · subst h1
    have HRES : Hid (doN M cap ⟨1, path, old, at_, data⟩ = makeN M cap path false) := Lib.hid (by unfold doN; dsimp only; rw [if_pos rfl])
    have hc := refMake_any hR hG path hp false
    rw [if_neg (by decide)] at hc
    have HC := Lib.hid hc
    clear hc
    unfold treeV at HC
    generalize makeN M cap path false = r at *
    clear hp ho hl hr hF0 hR hG
    go_enter Tryz.func10, Tryz.ntmps10
    go_wp2_with fail
    refine HC.out.mono ?_
    rintro e w1 ⟨v1, rfl, hr1, hb1⟩
    obtain ⟨-, g1, c1, rfl, -⟩ := id hr1
    have HF1 := Lib.hid (HF0.out.below hb1); have HR1 := Lib.hid (hr1.next3 HF0.out)
    have z0 := HF1.out.c0; have z1 := HF1.out.f0; have z2 := HF1.out.c2; have z3 := HF1.out.f2
    clear hr1 hb1 HC a0 b0 b1 b2 b3 b4
    go_wp2_with fail
    obtain ⟨r1, r2, r3⟩ := HF1.out.ret HR1.out
    refine bodyPost_ret (results_row_tmp2 rfl _ _ (w.heap.size + 2) _ _ _ _ rfl r1 Tryz.underlying30 rfl (by kernel_rfl)) rfl ?_
    rw [HRES.out]
    exact ⟨_, rfl, r2, r3⟩
  by_cases h2 : kind = 2
  · subst h2
    have HRES : Hid (doN M cap ⟨2, path, old, at_, data⟩ = makeN M cap path true) := Lib.hid (by unfold doN; dsimp only; rw [if_neg (by decide)]; rw [if_pos rfl])
    have hc := refMake_any hR hG path hp true
    rw [if_pos rfl] at hc
    have HC := Lib.hid hc
    clear hc
    unfold treeV at HC
    generalize makeN M cap path true = r at *
    clear hp ho hl hr hF0 hR hG
    go_enter Tryz.func10, Tryz.ntmps10
    go_wp2_with fail
    refine HC.out.mono ?_
    rintro e w1 ⟨v1, rfl, hr1, hb1⟩
    obtain ⟨-, g1, c1, rfl, -⟩ := id hr1
    have HF1 := Lib.hid (HF0.out.below hb1); have HR1 := Lib.hid (hr1.next3 HF0.out)
    have z0 := HF1.out.c0; have z1 := HF1.out.f0; have z2 := HF1.out.c2; have z3 := HF1.out.f2
    clear hr1 hb1 HC a0 b0 b1 b2 b3 b4
    go_wp2_with fail
    obtain ⟨r1, r2, r3⟩ := HF1.out.ret HR1.out
    refine bodyPost_ret (results_row_tmp2 rfl _ _ (w.heap.size + 2) _ _ _ _ rfl r1 Tryz.underlying30 rfl (by kernel_rfl)) rfl ?_
    rw [HRES.out]
    exact ⟨_, rfl, r2, r3⟩
  by_cases h3 : kind = 3
  · subst h3
    have HRES : Hid (doN M cap ⟨3, path, old, at_, data⟩ = (0, linkN M old path)) := Lib.hid (by unfold doN; dsimp only; rw [if_neg (by decide)]; rw [if_neg (by decide)]; rw [if_pos rfl])
    have HC := Lib.hid (refLink_any hR hG old path ho hp)
    unfold treeV at HC
    generalize linkN M old path = r at *
    clear hp ho hl hr hF0 hR hG
    go_enter Tryz.func10, Tryz.ntmps10
    go_wp2_with fail
    refine HC.out.mono ?_
    rintro e w1 ⟨v1, rfl, hr1, hb1⟩
    obtain ⟨-, g1, c1, rfl, -⟩ := id hr1
    have HF1 := Lib.hid (HF0.out.below hb1); have HR1 := Lib.hid (hr1.next3 HF0.out)
    have z0 := HF1.out.c0; have z1 := HF1.out.f0; have z2 := HF1.out.c2; have z3 := HF1.out.f2
    clear hr1 hb1 HC a0 b0 b1 b2 b3 b4
    have HF2 := Lib.hid (HF1.out.set (.slice (some ⟨g1, 0, none⟩) cap c1)); have HR2 := Lib.hid (HR1.out.set3 (.slice (some ⟨g1, 0, none⟩) cap c1))
    have y0 := HF2.out.c0; have y1 := HF2.out.c2; have y2 := HF2.out.f2
    go_wp2_with fail
    obtain ⟨r1, r2, r3⟩ := HF2.out.ret HR2.out
    refine bodyPost_ret (results_row_tmp2 rfl _ _ (w.heap.size + 2) _ _ _ _ rfl r1 Tryz.underlying30 rfl (by kernel_rfl)) rfl ?_
    rw [HRES.out]
    exact ⟨_, rfl, r2, r3⟩
  by_cases h4 : kind = 4
  · subst h4
    have HRES : Hid (doN M cap ⟨4, path, old, at_, data⟩ = (0, goneN M path false)) := Lib.hid (by unfold doN; dsimp only; rw [if_neg (by decide)]; rw [if_neg (by decide)]; rw [if_neg (by decide)]; rw [if_pos rfl])
    have HC := Lib.hid (refUnlink_any hR hG path hp)
    unfold treeV at HC
    generalize goneN M path false = r at *
    clear hp ho hl hr hF0 hR hG
    go_enter Tryz.func10, Tryz.ntmps10
    go_wp2_with fail
    refine HC.out.mono ?_
    rintro e w1 ⟨v1, rfl, hr1, hb1⟩
    obtain ⟨-, g1, c1, rfl, -⟩ := id hr1
    have HF1 := Lib.hid (HF0.out.below hb1); have HR1 := Lib.hid (hr1.next3 HF0.out)
    have z0 := HF1.out.c0; have z1 := HF1.out.f0; have z2 := HF1.out.c2; have z3 := HF1.out.f2
    clear hr1 hb1 HC a0 b0 b1 b2 b3 b4
    have HF2 := Lib.hid (HF1.out.set (.slice (some ⟨g1, 0, none⟩) cap c1)); have HR2 := Lib.hid (HR1.out.set3 (.slice (some ⟨g1, 0, none⟩) cap c1))
    have y0 := HF2.out.c0; have y1 := HF2.out.c2; have y2 := HF2.out.f2
    go_wp2_with fail
    obtain ⟨r1, r2, r3⟩ := HF2.out.ret HR2.out
    refine bodyPost_ret (results_row_tmp2 rfl _ _ (w.heap.size + 2) _ _ _ _ rfl r1 Tryz.underlying30 rfl (by kernel_rfl)) rfl ?_
    rw [HRES.out]
    exact ⟨_, rfl, r2, r3⟩
  by_cases h5 : kind = 5
  · subst h5
    have HRES : Hid (doN M cap ⟨5, path, old, at_, data⟩ = (0, goneN M path true)) := Lib.hid (by unfold doN; dsimp only; rw [if_neg (by decide)]; rw [if_neg (by decide)]; rw [if_neg (by decide)]; rw [if_neg (by decide)]; rw [if_pos rfl])
    have HC := Lib.hid (refRmdir_any hR hG path hp)
    unfold treeV at HC
    generalize goneN M path true = r at *
    clear hp ho hl hr hF0 hR hG
    go_enter Tryz.func10, Tryz.ntmps10
    go_wp2_with fail
    refine HC.out.mono ?_
    rintro e w1 ⟨v1, rfl, hr1, hb1⟩
    obtain ⟨-, g1, c1, rfl, -⟩ := id hr1
    have HF1 := Lib.hid (HF0.out.below hb1); have HR1 := Lib.hid (hr1.next3 HF0.out)
    have z0 := HF1.out.c0; have z1 := HF1.out.f0; have z2 := HF1.out.c2; have z3 := HF1.out.f2
    clear hr1 hb1 HC a0 b0 b1 b2 b3 b4
    have HF2 := Lib.hid (HF1.out.set (.slice (some ⟨g1, 0, none⟩) cap c1)); have HR2 := Lib.hid (HR1.out.set3 (.slice (some ⟨g1, 0, none⟩) cap c1))
    have y0 := HF2.out.c0; have y1 := HF2.out.c2; have y2 := HF2.out.f2
    go_wp2_with fail
    obtain ⟨r1, r2, r3⟩ := HF2.out.ret HR2.out
    refine bodyPost_ret (results_row_tmp2 rfl _ _ (w.heap.size + 2) _ _ _ _ rfl r1 Tryz.underlying30 rfl (by kernel_rfl)) rfl ?_
    rw [HRES.out]
    exact ⟨_, rfl, r2, r3⟩
  by_cases h6 : kind = 6
  · subst h6
    have HRES : Hid (doN M cap ⟨6, path, old, at_, data⟩ = (0, renameN M old path)) := Lib.hid (by unfold doN; dsimp only; rw [if_neg (by decide)]; rw [if_neg (by decide)]; rw [if_neg (by decide)]; rw [if_neg (by decide)]; rw [if_neg (by decide)]; rw [if_pos rfl])
    have HC : Hid (Calls Tryz.prog 28 #[treeV (.slice (some ⟨g, 0, none⟩) cap c), .string old, .string path] _ fun e w' => ∃ v', e = .returned (.tuple #[treeV v', .int .i64 (renameN M old path).1]) ∧ RefIs (fun b => D3 D w b ∨ _ ≤ b) w' v' cap (refM (renameN M old path).2) ∧ Below _ _ w') := Lib.hid (by
      by_cases hd : ∀ i, lookN M old = .inl i → isDir M i = false
      · exact refRenameF_any hR hG old path ho hp hd
      · refine refRenameD_any hR hG old path ho hp fun i hi => ?_
        cases hdi : isDir M i with
        | true => rfl
        | false => exact absurd (fun j hj => by rw [hi] at hj; injection hj with hj; rw [← hj]; exact hdi) hd)
    unfold treeV at HC
    generalize renameN M old path = r at *
    clear hp ho hl hr hF0 hR hG
    go_enter Tryz.func10, Tryz.ntmps10
    go_wp2_with fail
    refine HC.out.mono ?_
    rintro e w1 ⟨v1, rfl, hr1, hb1⟩
    obtain ⟨-, g1, c1, rfl, -⟩ := id hr1
    have HF1 := Lib.hid (HF0.out.below hb1); have HR1 := Lib.hid (hr1.next3 HF0.out)
    have z0 := HF1.out.c0; have z1 := HF1.out.f0; have z2 := HF1.out.c2; have z3 := HF1.out.f2
    clear hr1 hb1 HC a0 b0 b1 b2 b3 b4
    have HF2 := Lib.hid (HF1.out.set (.slice (some ⟨g1, 0, none⟩) cap c1)); have HR2 := Lib.hid (HR1.out.set3 (.slice (some ⟨g1, 0, none⟩) cap c1))
    have y0 := HF2.out.c0; have y1 := HF2.out.c2; have y2 := HF2.out.f2
    go_wp2_with fail
    obtain ⟨r1, r2, r3⟩ := HF2.out.ret HR2.out
    refine bodyPost_ret (results_row_tmp2 rfl _ _ (w.heap.size + 2) _ _ _ _ rfl r1 Tryz.underlying30 rfl (by kernel_rfl)) rfl ?_
    rw [HRES.out]
    exact ⟨_, rfl, r2, r3⟩
  by_cases h7 : kind = 7
  · subst h7
    have HRES : Hid (doN M cap ⟨7, path, old, at_, data⟩ = (0, writeN M path at_ data)) := Lib.hid (by unfold doN; dsimp only; rw [if_neg (by decide)]; rw [if_neg (by decide)]; rw [if_neg (by decide)]; rw [if_neg (by decide)]; rw [if_neg (by decide)]; rw [if_neg (by decide)]; rw [if_pos rfl])
    have HC := Lib.hid (refWrite_any hR hG.1 path hp at_ hr data hl)
    have hcv := HCV.out
    unfold treeV at HC
    generalize writeN M path at_ data = r at *
    clear hp ho hl hr hF0 hR hG
    go_enter Tryz.func10, Tryz.ntmps10
    go_wp2_with fail
    refine HC.out.mono ?_
    rintro e w1 ⟨v1, rfl, hr1, hb1⟩
    obtain ⟨-, g1, c1, rfl, -⟩ := id hr1
    have HF1 := Lib.hid (HF0.out.below hb1); have HR1 := Lib.hid (hr1.next3 HF0.out)
    have z0 := HF1.out.c0; have z1 := HF1.out.f0; have z2 := HF1.out.c2; have z3 := HF1.out.f2
    clear hr1 hb1 HC a0 b0 b1 b2 b3 b4
    have HF2 := Lib.hid (HF1.out.set (.slice (some ⟨g1, 0, none⟩) cap c1)); have HR2 := Lib.hid (HR1.out.set3 (.slice (some ⟨g1, 0, none⟩) cap c1))
    have y0 := HF2.out.c0; have y1 := HF2.out.c2; have y2 := HF2.out.f2
    go_wp2_with fail
    obtain ⟨r1, r2, r3⟩ := HF2.out.ret HR2.out
    refine bodyPost_ret (results_row_tmp2 rfl _ _ (w.heap.size + 2) _ _ _ _ rfl r1 Tryz.underlying30 rfl (by kernel_rfl)) rfl ?_
    rw [HRES.out]
    exact ⟨_, rfl, r2, r3⟩
  by_cases h8 : kind = 8
  · subst h8
    have HRES : Hid (doN M cap ⟨8, path, old, at_, data⟩ = (0, truncN M path at_)) := Lib.hid (by unfold doN; dsimp only; rw [if_neg (by decide)]; rw [if_neg (by decide)]; rw [if_neg (by decide)]; rw [if_neg (by decide)]; rw [if_neg (by decide)]; rw [if_neg (by decide)]; rw [if_neg (by decide)]; rw [if_pos rfl])
    have HC := Lib.hid (refTrunc_any hR hG.1 path hp at_ hr)
    unfold treeV at HC
    generalize truncN M path at_ = r at *
    clear hp ho hl hr hF0 hR hG
    go_enter Tryz.func10, Tryz.ntmps10
    go_wp2_with fail
    refine HC.out.mono ?_
    rintro e w1 ⟨v1, rfl, hr1, hb1⟩
    obtain ⟨-, g1, c1, rfl, -⟩ := id hr1
    have HF1 := Lib.hid (HF0.out.below hb1); have HR1 := Lib.hid (hr1.next3 HF0.out)
    have z0 := HF1.out.c0; have z1 := HF1.out.f0; have z2 := HF1.out.c2; have z3 := HF1.out.f2
    clear hr1 hb1 HC a0 b0 b1 b2 b3 b4
    have HF2 := Lib.hid (HF1.out.set (.slice (some ⟨g1, 0, none⟩) cap c1)); have HR2 := Lib.hid (HR1.out.set3 (.slice (some ⟨g1, 0, none⟩) cap c1))
    have y0 := HF2.out.c0; have y1 := HF2.out.c2; have y2 := HF2.out.f2
    go_wp2_with fail
    obtain ⟨r1, r2, r3⟩ := HF2.out.ret HR2.out
    refine bodyPost_ret (results_row_tmp2 rfl _ _ (w.heap.size + 2) _ _ _ _ rfl r1 Tryz.underlying30 rfl (by kernel_rfl)) rfl ?_
    rw [HRES.out]
    exact ⟨_, rfl, r2, r3⟩
  have q1 : (kind == 1) = false := by simp [h1]
  have q2 : (kind == 2) = false := by simp [h2]
  have q3 : (kind == 3) = false := by simp [h3]
  have q4 : (kind == 4) = false := by simp [h4]
  have q5 : (kind == 5) = false := by simp [h5]
  have q6 : (kind == 6) = false := by simp [h6]
  have q7 : (kind == 7) = false := by simp [h7]
  have q8 : (kind == 8) = false := by simp [h8]
  have HRES : Hid (doN M cap ⟨kind, path, old, at_, data⟩ = (0, 0, M)) := Lib.hid (by
    unfold doN
    rw [if_neg h1, if_neg h2, if_neg h3, if_neg h4, if_neg h5, if_neg h6, if_neg h7, if_neg h8])
  have z0 := HF0.out.c0
  clear h1 h2 h3 h4 h5 h6 h7 h8 hp ho hl hr hF0 hR hG
  go_enter Tryz.func10, Tryz.ntmps10
  go_wp2_with fail
  obtain ⟨r1, r2, r3⟩ := DFr.ret0 w #[.int .i64 kind, .string path, .string old, .int .i64 at_, dv] _ HH.out
  refine bodyPost_ret (results_row_tmp2 rfl _ _ (w.heap.size + 2) _ _ _ _ rfl r1 Tryz.underlying30 rfl (by kernel_rfl)) rfl ?_
  rw [HRES.out]
  exact ⟨_, rfl, r2, r3⟩
end
end Go.Proofs.YtoofcnehoffllaaGreat

namespace Go.Proofs.YtoofcnehoffllaaGreat
open Go.RowKit

set_option maxHeartbeats 4000000 in
set_option maxRecDepth 100000 in
theorem refNew_bad {n : Int} (hn : n < 4 ∨ 200 < n) (w : World) : Calls Tryz.prog 7 #[.int .i64 n] w fun e w' => e = .returned (.tuple #[treeV (.slice none 0 0), .int .i64 22]) ∧ Below w.heap.size w w' := by
  obtain ⟨hb, hx⟩ := top_new w (.slice none 0 0)
  have HB := Lib.hid hb; have HX := Lib.hid hx
  have f0 := free_blk (i := 0) hx
  clear hb hx
  unfold treeV
  by_cases h4 : n < 4
  · clear hn
    go_enter Tryz.func7, Tryz.ntmps7
    go_wp2_with fail
    refine bodyPost_ret (results_row_tmp rfl _ _ w.heap.size _ _ _ _ rfl HX.out Tryz.underlying30 rfl (by kernel_rfl)) rfl ?_
    exact ⟨rfl, HB.out⟩
  · have h2 : 200 < n := by omega
    clear hn
    go_enter Tryz.func7, Tryz.ntmps7
    go_wp2_with fail
    refine bodyPost_ret (results_row_tmp rfl _ _ w.heap.size _ _ _ _ rfl HX.out Tryz.underlying30 rfl (by kernel_rfl)) rfl ?_
    exact ⟨rfl, HB.out⟩
theorem madeCells_at (a b c : Value) (n i j : Nat) (hi : i < n) (hj : j < 3) : (madeCells #[a, b, c] (n * 3))[i * 3 + j]? = some (match j with | 0 => a | 1 => b | _ => c) := by
  have hlt : i * 3 + j < n * 3 := by omega
  unfold madeCells
  rw [Array.getElem?_map, Array.getElem?_range, if_pos hlt]
  have h3 : (i * 3 + j) % #[a, b, c].size = j := by show (i * 3 + j) % 3 = j; omega
  rw [Option.map_some, h3]
  obtain rfl | rfl | rfl : j = 0 ∨ j = 1 ∨ j = 2 := by omega
  · rfl
  · rfl
  · rfl
theorem refM_new (i : Nat) : refM newM i = ⟨if i = 2 then 2 else 0, [], fun _ => none⟩ := by
  unfold refM newM
  by_cases hi : i = 2
  · rw [if_pos hi, if_pos hi]; rfl
  · rw [if_neg hi, if_neg hi]
set_option maxHeartbeats 4000000 in
set_option maxRecDepth 100000 in
theorem refNew_any {n : Nat} (h4 : 4 ≤ n) (h2 : n ≤ 200) (w : World) : Calls Tryz.prog 7 #[.int .i64 n] w fun e w' => ∃ v', e = .returned (.tuple #[treeV v', .int .i64 0]) ∧ RefIs (fun b => w.heap.size ≤ b) w' v' (n + 1) (refM newM) ∧ Below w.heap.size w w' := by
  obtain ⟨i0, hi, hz0, hz1, hz2⟩ := info_parts (P := Tryz.prog) (e := 74) (z := .agg #[.int .i64 0, .string ⟨#[]⟩, .slice none 0 0]) (size := 3) (bytes := 48) (by kernel_rfl)
  obtain ⟨hb0, hx0⟩ := top_new w (.slice none 0 0)
  obtain ⟨W0, hW0⟩ : ∃ W0, W0 = w.alloc (.cells #[.slice none 0 0] 30) := ⟨_, rfl⟩
  have hsz0 : W0.heap.size = w.heap.size + 1 := by rw [hW0]; simp
  have hmk := run_makeSlice (P := Tryz.prog) W0 28 74 i0 _ Tryz.underlying28 hi hz0 .i64 .i64 ((n : Int) + 1) ((n : Int) + 1) (by omega) (by omega) (by rw [hz1]; omega) (by rw [hz2]; omega) (by omega)
  have hb1 : (4 : Int) ≤ (n : Int) := by omega
  have hb2 : (n : Int) ≤ 200 := by omega
  rw [show ((n : Int) + 1).toNat = n + 1 by omega, hz1, show (Value.agg #[.int .i64 0, .string ⟨#[]⟩, .slice none 0 0]).cells = #[.int .i64 0, .string ⟨#[]⟩, .slice none 0 0] from rfl] at hmk
  obtain ⟨Z, hZ⟩ : ∃ Z, Z = madeCells #[.int .i64 0, .string ⟨#[]⟩, .slice none 0 0] ((n + 1) * 3) := ⟨_, rfl⟩
  have hZs : Z.size = (n + 1) * 3 := by rw [hZ]; exact size_madeCells _ _
  have hZ0 : ∀ i, i < n + 1 → Z[i * 3]? = some (.int .i64 0) := fun i hi => by rw [hZ]; exact madeCells_at _ _ _ _ i 0 hi (by omega)
  have hZ1 : ∀ i, i < n + 1 → Z[i * 3 + 1]? = some (.string ⟨#[]⟩) := fun i hi => by rw [hZ]; exact madeCells_at _ _ _ _ i 1 hi (by omega)
  have hZ2 : ∀ i, i < n + 1 → Z[i * 3 + 2]? = some (.slice none 0 0) := fun i hi => by rw [hZ]; exact madeCells_at _ _ _ _ i 2 hi (by omega)
  rw [← hZ] at hmk
  clear hi hz0 hz2 hz1 hZ
  rw [hsz0, hW0] at hmk
  have B1 : (((w.alloc (.cells #[.slice none 0 0] 30)).alloc (.cells Z 74)).alloc (.cells #[.slice (some ⟨w.heap.size + 1, 0, none⟩) (n + 1) (n + 1)] 30)).heap[w.heap.size + 1]? = some (.cells Z 74 (0, 0)) := blk_old (blk_new (by simp))
  have B0 : (((w.alloc (.cells #[.slice none 0 0] 30)).alloc (.cells Z 74)).alloc (.cells #[.slice (some ⟨w.heap.size + 1, 0, none⟩) (n + 1) (n + 1)] 30)).heap[w.heap.size]? = some (.cells #[.slice none 0 0] 30 (0, 0)) := blk_old (blk_old (blk_new rfl))
  have B2 : (((w.alloc (.cells #[.slice none 0 0] 30)).alloc (.cells Z 74)).alloc (.cells #[.slice (some ⟨w.heap.size + 1, 0, none⟩) (n + 1) (n + 1)] 30)).heap[w.heap.size + 1 + 1]? = some (.cells #[.slice (some ⟨w.heap.size + 1, 0, none⟩) (n + 1) (n + 1)] 30 (0, 0)) := blk_new (by simp)
  have BE : Below w.heap.size w (((w.alloc (.cells #[.slice none 0 0] 30)).alloc (.cells Z 74)).alloc (.cells #[.slice (some ⟨w.heap.size + 1, 0, none⟩) (n + 1) (n + 1)] 30)) := (((Below.refl _ w).alloc (Nat.le_refl _) _).alloc (by simp) _).alloc (by simp; omega) _
  have c6 := cell_blk_some B1 (hZ0 2 (by omega))
  have f6 := free_blk (i := 6) B1
  have H0 := Lib.hid hZ0; have H1 := Lib.hid hZ1; have H2 := Lib.hid hZ2; have HZS := Lib.hid hZs
  clear B0 B1 B2 BE hb0 hx0 hW0 hsz0 hZ0 hZ1 hZ2 hZs
  unfold treeV
  go_enter Tryz.func7, Tryz.ntmps7
  go_wp2_with fail
  have B1 : (((w.alloc (.cells #[.slice (some ⟨w.heap.size + 1, 0, none⟩) (n + 1) (n + 1)] 30)).alloc (.cells (Z.setIfInBounds 6 (.int .i64 2)) 74)).alloc (.cells #[.slice (some ⟨w.heap.size + 1, 0, none⟩) (n + 1) (n + 1)] 30)).heap[w.heap.size + 1]? = some (.cells (Z.setIfInBounds 6 (.int .i64 2)) 74 (0, 0)) := blk_old (blk_new (by simp))
  have B0 : (((w.alloc (.cells #[.slice (some ⟨w.heap.size + 1, 0, none⟩) (n + 1) (n + 1)] 30)).alloc (.cells (Z.setIfInBounds 6 (.int .i64 2)) 74)).alloc (.cells #[.slice (some ⟨w.heap.size + 1, 0, none⟩) (n + 1) (n + 1)] 30)).heap[w.heap.size]? = some (.cells #[.slice (some ⟨w.heap.size + 1, 0, none⟩) (n + 1) (n + 1)] 30 (0, 0)) := blk_old (blk_old (blk_new rfl))
  have BE : Below w.heap.size w (((w.alloc (.cells #[.slice (some ⟨w.heap.size + 1, 0, none⟩) (n + 1) (n + 1)] 30)).alloc (.cells (Z.setIfInBounds 6 (.int .i64 2)) 74)).alloc (.cells #[.slice (some ⟨w.heap.size + 1, 0, none⟩) (n + 1) (n + 1)] 30)) := (((Below.refl _ w).alloc (Nat.le_refl _) _).alloc (by simp) _).alloc (by simp; omega) _
  refine bodyPost_ret (results_row_tmp rfl _ _ w.heap.size _ _ _ _ rfl B0 Tryz.underlying30 rfl (by kernel_rfl)) rfl ?_
  refine ⟨_, rfl, ⟨by omega, w.heap.size + 1, n + 1, rfl, by omega, blk_lt B1, fun i hi => ⟨.slice none 0 0, ?_, ?_, ?_, ?_⟩⟩, BE⟩
  · refine cell_blk_some B1 ?_
    rw [refM_new, Array.getElem?_setIfInBounds]
    by_cases h : i = 2
    · rw [if_pos (by omega), if_pos (by rw [HZS.out]; omega), if_pos h]
    · rw [if_neg (by omega), if_neg h]
      exact H0.out i hi
  · refine cell_blk_some B1 ?_
    rw [refM_new, Array.getElem?_setIfInBounds, if_neg (by omega)]
    exact H1.out i hi
  · refine cell_blk_some B1 ?_
    rw [Array.getElem?_setIfInBounds, if_neg (by omega)]
    exact H2.out i hi
  · rw [refM_new]
    exact EntRow.nil
end Go.Proofs.YtoofcnehoffllaaGreat
