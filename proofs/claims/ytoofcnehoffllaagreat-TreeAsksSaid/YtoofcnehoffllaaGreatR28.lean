/- A call of a script beside other memory, and what was not the tree's stays so (printed by tools/genkeep.py from XT56). -/
import Derived.Test.YtoofcnehoffllaaGreatR27
namespace Go.Proofs.YtoofcnehoffllaaGreat
open Go.RowKit

section
variable {w0 w wb w' : World} {tb nb cap : Nat} {P E : Nat → Option Nat} {V : Nat → Value} {M M' : TM} {F : Nat → Prop}
theorem LFt.leave2 (h : LFt w0 w tb cap F M) (hbw : Below w.heap.size w wb) (hl : TLeft wb w' tb cap F M') (hg : Good M' cap) : ∃ F', LFt w0 w' tb cap F' M' ∧ Fr F w w' ∧ ∀ b, b < w.heap.size → ¬ F b → ¬ F' b := by
  obtain ⟨F', a, c⟩ := (h.below hbw).left hl hg
  exact ⟨F', a, (Fr.below hbw).trans hl.2, fun b hb hn => c b (Nat.lt_of_lt_of_le hb hbw.size) hn⟩
set_option maxHeartbeats 4000000 in
set_option maxRecDepth 100000 in
theorem do_keep2 (h : LFt w0 w tb cap F M) (x : TOp × Value) (hp : x.1.path.size ≤ 1000000) (ho : x.1.old.size ≤ 1000000) (hl : x.1.data.length ≤ 1000000) (hr : -9223372036854775808 ≤ x.1.at_ ∧ x.1.at_ ≤ 9223372036854775807)
    (hsrc : SrcG 1 w x.2 x.1.data.length (u8s x.1.data)) (hb : ∀ y ∈ x.1.data, 0 ≤ y ∧ y < 256) :
    Calls Tryz.prog 9 #[.iface 24 (.pointer (some ⟨tb, 0, none⟩)), opT x] w fun e w' => e = .returned (.tuple #[.int .i64 (doN M cap x.1).1, .int .i64 (doN M cap x.1).2.1]) ∧ ∃ F', LFt w0 w' tb cap F' (doN M cap x.1).2.2 ∧ Fr F w w' ∧ ∀ b, b < w.heap.size → ¬ F b → ¬ F' b := by
  obtain ⟨⟨kind, path, old, at_, data⟩, v⟩ := x
  unfold opT
  dsimp only at hp ho hl hr hsrc hb ⊢
  have hbw : Below w.heap.size w (w.alloc (.cells #[.int .i64 kind, .string path, .string old, .int .i64 at_, v] 36)) := (Below.refl _ w).alloc (Nat.le_refl _) _
  have hB := h.below hbw

  by_cases h1 : kind = 1
  · subst h1
    have HC := Lib.hid ((create_any hB.at_ path hp).mono fun _ _ q => And.intro q.1 (h.leave2 hbw q.2 (hB.good.make path false)))
    have HRES : Hid (doN M cap ⟨1, path, old, at_, data⟩ = makeN M cap path false) := Lib.hid (by unfold doN; dsimp only; rw [if_pos rfl])
    generalize makeN M cap path false = r at *
    clear h hp ho hl hsrc hb hr hbw hB
    go_enter Tryz.func9, Tryz.ntmps9
    go_wp2_with fail
    refine HC.out.mono ?_
    rintro e w1 ⟨rfl, hl1⟩
    have HL := Lib.hid hl1
    clear hl1 HC
    go_wp2_with fail
    go_ret2
    rw [HRES.out]
    exact ⟨rfl, HL.out⟩
  by_cases h2 : kind = 2
  · subst h2
    have HC := Lib.hid ((mkdir_any hB.at_ path hp).mono fun _ _ q => And.intro q.1 (h.leave2 hbw q.2 (hB.good.make path true)))
    have HRES : Hid (doN M cap ⟨2, path, old, at_, data⟩ = makeN M cap path true) := Lib.hid (by unfold doN; dsimp only; rw [if_neg (by decide)]; rw [if_pos rfl])
    generalize makeN M cap path true = r at *
    clear h hp ho hl hsrc hb hr hbw hB
    go_enter Tryz.func9, Tryz.ntmps9
    go_wp2_with fail
    refine HC.out.mono ?_
    rintro e w1 ⟨rfl, hl1⟩
    have HL := Lib.hid hl1
    clear hl1 HC
    go_wp2_with fail
    go_ret2
    rw [HRES.out]
    exact ⟨rfl, HL.out⟩
  by_cases h3 : kind = 3
  · subst h3
    have HC := Lib.hid ((link_any hB.at_ hB.good.1 old path ho hp).mono fun _ _ q => And.intro q.1 (h.leave2 hbw q.2 (hB.good.link old path)))
    have HRES : Hid (doN M cap ⟨3, path, old, at_, data⟩ = (0, linkN M old path)) := Lib.hid (by unfold doN; dsimp only; rw [if_neg (by decide)]; rw [if_neg (by decide)]; rw [if_pos rfl])
    generalize linkN M old path = r at *
    clear h hp ho hl hsrc hb hr hbw hB
    go_enter Tryz.func9, Tryz.ntmps9
    go_wp2_with fail
    refine HC.out.mono ?_
    rintro e w1 ⟨rfl, hl1⟩
    have HL := Lib.hid hl1
    clear hl1 HC
    go_wp2_with fail
    go_ret2
    rw [HRES.out]
    exact ⟨rfl, HL.out⟩
  by_cases h4 : kind = 4
  · subst h4
    have HC := Lib.hid ((unlink_any hB.at_ hB.good.1 path hp).mono fun _ _ q => And.intro q.1 (h.leave2 hbw q.2 (hB.good.gone path false)))
    have HRES : Hid (doN M cap ⟨4, path, old, at_, data⟩ = (0, goneN M path false)) := Lib.hid (by unfold doN; dsimp only; rw [if_neg (by decide)]; rw [if_neg (by decide)]; rw [if_neg (by decide)]; rw [if_pos rfl])
    generalize goneN M path false = r at *
    clear h hp ho hl hsrc hb hr hbw hB
    go_enter Tryz.func9, Tryz.ntmps9
    go_wp2_with fail
    refine HC.out.mono ?_
    rintro e w1 ⟨rfl, hl1⟩
    have HL := Lib.hid hl1
    clear hl1 HC
    go_wp2_with fail
    go_ret2
    rw [HRES.out]
    exact ⟨rfl, HL.out⟩
  by_cases h5 : kind = 5
  · subst h5
    have HC := Lib.hid ((rmdir_any hB.at_ hB.good.1 path hp).mono fun _ _ q => And.intro q.1 (h.leave2 hbw q.2 (hB.good.gone path true)))
    have HRES : Hid (doN M cap ⟨5, path, old, at_, data⟩ = (0, goneN M path true)) := Lib.hid (by unfold doN; dsimp only; rw [if_neg (by decide)]; rw [if_neg (by decide)]; rw [if_neg (by decide)]; rw [if_neg (by decide)]; rw [if_pos rfl])
    generalize goneN M path true = r at *
    clear h hp ho hl hsrc hb hr hbw hB
    go_enter Tryz.func9, Tryz.ntmps9
    go_wp2_with fail
    refine HC.out.mono ?_
    rintro e w1 ⟨rfl, hl1⟩
    have HL := Lib.hid hl1
    clear hl1 HC
    go_wp2_with fail
    go_ret2
    rw [HRES.out]
    exact ⟨rfl, HL.out⟩
  by_cases h6 : kind = 6
  · subst h6
    have HC := Lib.hid ((rename_any hB.at_ hB.good old path ho hp).mono fun _ _ q => And.intro q.1 (h.leave2 hbw q.2 (hB.good.rename old path)))
    have HRES : Hid (doN M cap ⟨6, path, old, at_, data⟩ = (0, renameN M old path)) := Lib.hid (by unfold doN; dsimp only; rw [if_neg (by decide)]; rw [if_neg (by decide)]; rw [if_neg (by decide)]; rw [if_neg (by decide)]; rw [if_neg (by decide)]; rw [if_pos rfl])
    generalize renameN M old path = r at *
    clear h hp ho hl hsrc hb hr hbw hB
    go_enter Tryz.func9, Tryz.ntmps9
    go_wp2_with fail
    refine HC.out.mono ?_
    rintro e w1 ⟨rfl, hl1⟩
    have HL := Lib.hid hl1
    clear hl1 HC
    go_wp2_with fail
    go_ret2
    rw [HRES.out]
    exact ⟨rfl, HL.out⟩
  by_cases h7 : kind = 7
  · subst h7
    have HRES : Hid (doN M cap ⟨7, path, old, at_, data⟩ = (0, writeN M path at_ data)) := Lib.hid (by unfold doN; dsimp only; rw [if_neg (by decide)]; rw [if_neg (by decide)]; rw [if_neg (by decide)]; rw [if_neg (by decide)]; rw [if_neg (by decide)]; rw [if_neg (by decide)]; rw [if_pos rfl])
    obtain ⟨va0, vc0, hv0, -⟩ := id hsrc
    subst hv0
    have hF0 := hB
    have HBW := Lib.hid hbw
    have hbx : (w.alloc (.cells #[.int .i64 7, .string path, .string old, .int .i64 at_, .slice va0 data.length vc0] 36)).heap[w.heap.size]? = some (.cells #[.int .i64 7, .string path, .string old, .int .i64 at_, .slice va0 data.length vc0] 36 (0, 0)) := blk_new rfl
    have HF0 := Lib.hid hF0; have HBX := Lib.hid hbx; have HP := Lib.hid hp; have HLEN := Lib.hid hl; have HR := Lib.hid hr; have HBY := Lib.hid hb
    have HSRC := Lib.hid ((hsrc.below hbw).below ((Below.refl (w.alloc (.cells #[.int .i64 7, .string path, .string old, .int .i64 at_, .slice va0 data.length vc0] 36)).heap.size (w.alloc (.cells #[.int .i64 7, .string path, .string old, .int .i64 at_, .slice va0 data.length vc0] 36))).alloc (Nat.le_refl _) (.cells #[] 5)))
    have OW : Hid (((w.alloc (.cells #[.int .i64 7, .string path, .string old, .int .i64 at_, .slice va0 data.length vc0] 36)).alloc (.cells #[] 5)).ownsRow (w.alloc (.cells #[.int .i64 7, .string path, .string old, .int .i64 at_, .slice va0 data.length vc0] 36)).heap.size 5 1 (.slice (some ⟨(w.alloc (.cells #[.int .i64 7, .string path, .string old, .int .i64 at_, .slice va0 data.length vc0] 36)).heap.size, 0, none⟩) 0 0) 0 []) := Lib.hid ⟨rfl, .inr ⟨(w.alloc (.cells #[.int .i64 7, .string path, .string old, .int .i64 at_, .slice va0 data.length vc0] 36)).heap.size, 0, #[], rfl, Nat.le_refl _, blk_new rfl, Nat.le_refl _, by decide, rfl, rfl⟩⟩
    have hzz : (w.alloc (.cells #[.int .i64 7, .string path, .string old, .int .i64 at_, .slice va0 data.length vc0] 36)).heap.size ≤ ((w.alloc (.cells #[.int .i64 7, .string path, .string old, .int .i64 at_, .slice va0 data.length vc0] 36)).alloc (.cells #[] 5)).heap.size := by simp
    have hs1 : (w.alloc (.cells #[.int .i64 7, .string path, .string old, .int .i64 at_, .slice va0 data.length vc0] 36)).heap.size = w.heap.size + 1 := by simp
    have HS1 := Lib.hid hs1
    have ow1 := OW.out
    rw [hs1] at ow1
    have OW1 : Hid (((w.alloc (.cells #[.int .i64 7, .string path, .string old, .int .i64 at_, .slice va0 data.length vc0] 36)).alloc (.cells #[] 5)).ownsRow (w.heap.size + 1) 5 1 (.slice (some ⟨w.heap.size + 1, 0, none⟩) 0 0) 0 []) := Lib.hid ow1
    have hz1 : w.heap.size + 1 ≤ ((w.alloc (.cells #[.int .i64 7, .string path, .string old, .int .i64 at_, .slice va0 data.length vc0] 36)).alloc (.cells #[] 5)).heap.size := by simp
    clear hs1 ow1
    clear h hF0 hbx hp ho hl hsrc hb hr hbw hB
    go_enter Tryz.func9, Tryz.ntmps9
    go_wp2_with (refine wpList_append_g (by rfl) (.tmp 57) (.tmp 59) (by rfl) elByte (by rfl) OW1.out (by rfl) HSRC.out (by have := HLEN.out; unfold maxLen; omega) (by have := HLEN.out; omega) hz1 ?_)
    intro v2 w2 ho2 hf2 hv2
    rw [← HS1.out] at ho2 hf2
    clear OW1 hz1
    have hszb : w.heap.size < (w.alloc (.cells #[.int .i64 7, .string path, .string old, .int .i64 at_, .slice va0 data.length vc0] 36)).heap.size := by simp
    generalize (w.alloc (.cells #[.int .i64 7, .string path, .string old, .int .i64 at_, .slice va0 data.length vc0] 36)) = wb at *
    have hbe : Below wb.heap.size wb w2 := ((Below.refl wb.heap.size wb).alloc (Nat.le_refl _) (.cells #[] 5)).trans (hf2.toBelow hzz fun y hy => (OW.out.lt y hy).1)
    have ho2 : w2.ownsRow wb.heap.size 5 1 v2 data.length (u8s data) := ho2
    have HF2 := Lib.hid (HF0.out.below hbe)
    have hbx2 := (hbe.block _ (blk_lt HBX.out)).trans HBX.out
    have hnf : ∀ g, v2.ownBlock = some g → ¬ F g := fun g hg hF => by
      have := (ho2.lt g hg).1
      have := HF0.out.lt g hF
      omega
    obtain ⟨va, vc, rfl⟩ := own_shape ho2
    obtain ⟨g, hg0, hg1, hrow⟩ := byteRow_own (w0 := wb) ho2 (fun u hu => by
      unfold u8s at hu
      obtain ⟨z, _, rfl⟩ := List.mem_map.1 hu
      exact ⟨z, rfl⟩) (Nat.le_refl _) (by have := hbe.size; have := hf2.size; simp at this; omega)
    have hgF : ¬ F g := fun hF => by have := HF0.out.lt g hF; omega
    have hC := write_any HF2.out.at_ HF2.out.good.1 path HP.out at_ HR.out (SrcG.of_own ho2 (u8s_one data)) (fun h0 a c ad e1 e2 hF => by
      injection e1 with e1 _ _
      subst e1
      rcases hrow with q | ⟨q, _⟩
      · omega
      · rw [q] at e2
        injection e2 with e2
        rw [← e2] at hF
        exact hgF hF) HLEN.out
    have HC := Lib.hid hC; have HGF := Lib.hid hgF; have HROW := Lib.hid hrow; have HG1 := Lib.hid hg1; have HG0 := Lib.hid hg0
    have HGW : Hid (w0.heap.size ≤ g) := Lib.hid (Nat.le_trans HF0.out.bel.size hg0)
    have HFR2 : Hid (Fr F w w2) := Lib.hid ((Fr.below HBW.out).trans (Fr.below hbe))
    have HGN : Hid (w.heap.size ≤ g) := Lib.hid (by omega)
    have HGD := Lib.hid (HF2.out.good.write path at_ HBY.out)
    have c1 := cell_blk_some hbx2 (i := 1) rfl
    have c3 := cell_blk_some hbx2 (i := 3) rfl
    generalize writeN M path at_ data = r at *
    clear ho2 hf2 hv2 hbe hbx2 hnf hrow hgF hC hg1 hg0 OW HSRC hzz HBX HF0 hszb
    go_wp2_with fail
    refine HC.out.mono ?_
    rintro e w3 ⟨rfl, hl3⟩
    have hg3 := hl3.2.block g HG1.out HGF.out
    have HROW3 : Hid (ByteRow w3 g data.length va) := Lib.hid (HROW.out.imp id fun ⟨q1, cur, q2, q3⟩ => ⟨q1, cur, by rw [hg3]; exact q2, q3⟩)
    have HFR3 := Lib.hid (HFR2.out.trans hl3.2)
    obtain ⟨F', hF', hn'⟩ := HF2.out.left hl3 HGD.out
    have HNA := Lib.hid hn'; have HF3 := Lib.hid hF'; have HN3 : Hid (¬ F' g) := Lib.hid (hn' g HG1.out HGF.out)
    clear hl3 hg3 hF' hn' HC HROW c1 c3
    generalize data.length = n at *
    have hn6 : n ≤ 1000000 := HLEN.out
    go_wp2_with fail
    go_loopw [70] (fun i wr => ∃ k : Nat, k ≤ n ∧ i = .int .i64 k ∧ Fr (fun x => x = g) w3 wr ∧ ByteRow wr g n va) (fun i _ => n - (RowKit.intOf i).toNat)
    case atStart => exact ⟨0, Nat.zero_le _, rfl, Fr.refl _ _, HROW3.out⟩
    case round =>
      obtain ⟨k, hk, rfl, hfr, hrw⟩ := hrel
      have HFR := Lib.hid hfr
      clear hfr HROW3
      by_cases hlt : k < n
      · rcases hrw with h0 | ⟨rfl, cur, hbb, hz⟩
        · omega
        · obtain ⟨z, hz1⟩ := hz k hlt
          have c1 := cell_blk_some hbb hz1
          have f1 := free_blk (i := k) hbb
          have hnew := blk_set (i := k) hbb (.int .u8 (IntKind.u8.wrap (z + 1)))
          have hks : k < cur.size := (Array.getElem?_eq_some_iff.1 hz1).1
          have hz2 : ∀ j, j < n → ∃ z', (cur.setIfInBounds k (.int .u8 (IntKind.u8.wrap (z + 1))))[j]? = some (.int .u8 z') := fun j hj => by
            by_cases hkj : k = j
            · subst hkj
              exact ⟨_, by rw [Array.getElem?_setIfInBounds, if_pos rfl, if_pos hks]⟩
            · rw [Array.getElem?_setIfInBounds, if_neg hkj]
              exact hz j hj
          have m1 : (k : Int) < (n : Int) := by omega
          have m2 : (0 : Int) ≤ (k : Int) := by omega
          have HN := Lib.hid hnew; have HZ := Lib.hid hz2
          clear hbb hz hz1 hnew hz2 hks
          go_wp2_with fail
          go_roundw
          case rel => exact ⟨k + 1, by omega, by go_num, HFR.out.setCell ⟨g, k, none⟩ rfl _, .inr ⟨rfl, _, HN.out, HZ.out⟩⟩
          case measure => simp [RowKit.intOf]; omega
      · obtain rfl : k = n := by omega
        have HEND := Lib.hid (HF3.out.other HFR.out (fun b hb => by rw [hb]; exact HGW.out) (fun b hb e => HN3.out (by rw [← e]; exact hb)))
        have HFE := Lib.hid (HFR3.out.trans' HFR.out fun x hx e => absurd hx (by have := HGN.out; omega))
        clear hrw HFR
        go_wp2_with fail
        go_ret2
        rw [HRES.out]
        exact ⟨rfl, F', HEND.out, HFE.out, fun b hb hn => HNA.out b (Nat.lt_of_lt_of_le hb HFR2.out.size) hn⟩
  by_cases h8 : kind = 8
  · subst h8
    have HC := Lib.hid ((truncate_any hB.at_ hB.good.1 path hp at_ hr).mono fun _ _ q => And.intro q.1 (h.leave2 hbw q.2 (hB.good.trunc path at_)))
    have HRES : Hid (doN M cap ⟨8, path, old, at_, data⟩ = (0, truncN M path at_)) := Lib.hid (by unfold doN; dsimp only; rw [if_neg (by decide)]; rw [if_neg (by decide)]; rw [if_neg (by decide)]; rw [if_neg (by decide)]; rw [if_neg (by decide)]; rw [if_neg (by decide)]; rw [if_neg (by decide)]; rw [if_pos rfl])
    generalize truncN M path at_ = r at *
    clear h hp ho hl hsrc hb hr hbw hB
    go_enter Tryz.func9, Tryz.ntmps9
    go_wp2_with fail
    refine HC.out.mono ?_
    rintro e w1 ⟨rfl, hl1⟩
    have HL := Lib.hid hl1
    clear hl1 HC
    go_wp2_with fail
    go_ret2
    rw [HRES.out]
    exact ⟨rfl, HL.out⟩
  have q1 : (kind == 1) = false := by simp [h1]
  have q2 : (kind == 2) = false := by simp [h2]
  have q3 : (kind == 3) = false := by simp [h3]
  have q4 : (kind == 4) = false := by simp [h4]
  have q5 : (kind == 5) = false := by simp [h5]
  have q6 : (kind == 6) = false := by simp [h6]
  have q7 : (kind == 7) = false := by simp [h7]
  have q8 : (kind == 8) = false := by simp [h8]
  have HRES : Hid (doN M cap ⟨kind, path, old, at_, data⟩ = (0, 0, M)) := Lib.hid (by
    unfold doN
    rw [if_neg h1, if_neg h2, if_neg h3, if_neg h4, if_neg h5, if_neg h6, if_neg h7, if_neg h8])
  have HL := Lib.hid (show ∃ F', LFt w0 _ tb cap F' M ∧ Fr F w _ ∧ ∀ b, b < w.heap.size → ¬ F b → ¬ F' b from ⟨F, hB, Fr.below hbw, fun _ _ h => h⟩)
  clear h h1 h2 h3 h4 h5 h6 h7 h8 hp ho hl hsrc hb hr hbw hB
  go_enter Tryz.func9, Tryz.ntmps9
  go_wp2_with fail
  go_ret2
  rw [HRES.out]
  exact ⟨rfl, HL.out⟩
end
end Go.Proofs.YtoofcnehoffllaaGreat
