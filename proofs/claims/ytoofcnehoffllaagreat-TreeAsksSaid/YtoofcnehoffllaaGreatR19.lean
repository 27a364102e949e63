/- Walk of the reference's Stat. -/
import Derived.Test.YtoofcnehoffllaaGreatR18
import Derived.Test.YtoofcnehoffllaaGreatTail
namespace Go.Proofs.YtoofcnehoffllaaGreat
open Go.RowKit

section
variable {D : Nat → Prop} {w : World} {v : Value} {cap : Nat} {M : TM}
set_option maxHeartbeats 4000000 in
set_option maxRecDepth 100000 in
theorem refStat_any (h : RefIs D w v cap (refM M)) (hG : TG M cap) (s : ByteArray) (hs : s.size ≤ 1000000) :
    Calls Tryz.prog 15 #[treeV v, .string s] w fun e w' => e = .returned (.tuple #[statV (statN M s).1, .int .i64 (statN M s).2]) ∧ Below w.heap.size w w' := by
  have hcap := h.1
  obtain ⟨g, c, hvv, hD, hg, hn⟩ := h.at_
  subst hvv
  have H := Lib.hid h; have HG := Lib.hid hG; have HN := Lib.hid hn
  have HF := Lib.hid (two_new w (.cells #[.slice (some ⟨g, 0, none⟩) cap c] 30 (0, 0)) (.cells #[.int .i64 0, .int .i64 0, .int .i64 0, .int .i64 0] 49 (0, 0)))
  have HL := Lib.hid (refLook_any (h.below HF.out.1) hG.ok s hs)
  clear h hG hn
  unfold treeV at HL ⊢
  go_enter Tryz.func15, Tryz.ntmps15
  cases hl : lookN M s with
  | inr q =>
    have HR : Hid (statN M s = ((0, 0, 0, 0), q)) := Lib.hid (by unfold statN; rw [hl])
    have hq : (q != 0) = true := by simp [look_nz hl]
    rw [hl] at HL
    unfold ledV at HL
    dsimp only at HL
    clear hl
    go_wp2_with fail
    refine HL.out.mono ?_
    rintro e w1 ⟨rfl, hb1⟩
    have HB1 := Lib.hid (below_call HF.out.1 hb1 (Nat.le_refl _))
    have HU1 := Lib.hid ((hb1.block _ (blk_lt HF.out.2.2.1)).trans HF.out.2.2.1)
    have c0 := cell_blk_some HU1.out (i := 0) rfl
    have c1 := cell_blk_some HU1.out (i := 1) rfl
    have c2 := cell_blk_some HU1.out (i := 2) rfl
    have c3 := cell_blk_some HU1.out (i := 3) rfl
    have f0 := free_blk (i := 0) HU1.out
    have f1 := free_blk (i := 1) HU1.out
    have f2 := free_blk (i := 2) HU1.out
    have f3 := free_blk (i := 3) HU1.out
    clear hb1 HL HF
    go_wp2_with fail
    have hfin := blk_set (blk_set (blk_set (blk_set HU1.out (i := 0) (.int .i64 0)) (i := 1) (.int .i64 0)) (i := 2) (.int .i64 0)) (i := 3) (.int .i64 0)
    refine bodyPost_ret (results_row_tmp rfl _ _ (w.heap.size + 1) _ _ _ _ rfl hfin Tryz.underlying49 rfl (by kernel_rfl)) rfl ?_
    rw [HR.out]
    have hfr := ((((Fr.refl (fun b => b = w.heap.size + 1) w1).setCell ⟨w.heap.size + 1, 0, none⟩ rfl (.int .i64 0)).setCell ⟨w.heap.size + 1, 1, none⟩ rfl (.int .i64 0)).setCell ⟨w.heap.size + 1, 2, none⟩ rfl (.int .i64 0)).setCell ⟨w.heap.size + 1, 3, none⟩ rfl (.int .i64 0)
    exact ⟨rfl, HB1.out.trans (hfr.toBelow HB1.out.size fun x hx => by omega)⟩
  | inl i =>
    have HR : Hid (statN M s = (((i : Int), (if isDir M i then 2 else 1), lkN M i, ((datN M i).length : Int)), 0)) := Lib.hid (by unfold statN; rw [hl])
    obtain ⟨nd, hm⟩ := Option.isSome_iff_exists.1 (look_is HG.out.ok hl)
    have hic := (HG.out.ok.low i nd hm).2
    have i0 : (0 : Int) ≤ (i : Int) := by omega
    have i1 : (i : Int) < (cap : Int) := by omega
    rw [hl] at HL
    unfold ledV at HL
    dsimp only at HL
    have HM := Lib.hid hm; have HIC := Lib.hid hic
    clear hl hm
    go_wp2_with fail
    refine HL.out.mono ?_
    rintro e w1 ⟨rfl, hb1⟩
    have HB1 := Lib.hid (below_call HF.out.1 hb1 (Nat.le_refl _))
    have HT1 := Lib.hid ((hb1.block _ (blk_lt HF.out.2.1)).trans HF.out.2.1)
    have HU1 := Lib.hid ((hb1.block _ (blk_lt HF.out.2.2.1)).trans HF.out.2.2.1)
    obtain ⟨ev, x0, x1, -, -⟩ := HN.out i hic
    have hkd : (refM M i).kd = if isDir M i then 2 else 1 := by
      rw [refM_kd]
      cases isDir M i
      · rw [HM.out]; rfl
      · rfl
    have hdt : (refM M i).dt = datN M i := by rw [refM_eq]
    rw [hkd] at x0
    rw [hdt] at x1
    generalize (if isDir M i then (2 : Int) else 1) = kd at *
    have hsz := str_size (datN M i)
    generalize strOfNums (datN M i) = st at *
    have hK : ∀ wz, Below w1.heap.size w1 wz → wz.cell? ⟨w.heap.size, 0, none⟩ = some (.slice (some ⟨g, 0, none⟩) cap c) ∧ wz.cell? ⟨g, i * 3, none⟩ = some (.int .i64 kd) ∧ wz.cell? ⟨g, i * 3 + 1, none⟩ = some (.string st) := fun wz hb => by
      have hbw := below_call HB1.out hb (Nat.le_refl _)
      exact ⟨cell_blk_some ((hb.block _ (blk_lt HT1.out)).trans HT1.out) rfl, (World.cell?_of_block (w := w) (a := ⟨g, i * 3, none⟩) (hbw.block g hg)).trans x0, (World.cell?_of_block (w := w) (a := ⟨g, i * 3 + 1, none⟩) (hbw.block g hg)).trans x1⟩
    have HK := Lib.hid hK
    obtain ⟨k0, k1, k2⟩ := hK w1 (Below.refl _ w1)
    have HLK : Hid (∀ wz, Below w1.heap.size w1 wz → Calls Tryz.prog 38 #[.agg #[.slice (some ⟨g, 0, none⟩) cap c], .int .i64 i] wz fun e w' => e = .returned (.int .i64 (lkN M i)) ∧ Below wz.heap.size wz w') := Lib.hid fun wz hb => by
      refine (links_any (H.out.below (below_call HB1.out hb (Nat.le_refl _))) i).mono ?_
      rintro e w' ⟨n, rfl, hli, hb⟩
      exact ⟨by rw [links_lk HG.out (by rw [HM.out]; rfl) hli], hb⟩
    clear hb1 HL HF hK hkd hdt x0 x1 hic
    go_wp2_with fail
    -- TAIL
    obtain ⟨Vs, hVs⟩ : ∃ Vs : List Value, Vs = [.int .i64 (i : Int), .pointer (some ⟨w.heap.size, 0, none⟩), .slice (some ⟨g, 0, none⟩) cap c, .int .i64 (i : Int), .pointer (some ⟨g, i * 3, none⟩), .pointer (some ⟨g, i * 3, none⟩), .int .i64 kd, .agg #[.slice (some ⟨g, 0, none⟩) cap c], .int .i64 (i : Int), .int .i64 (lkN M i), .pointer (some ⟨w.heap.size, 0, none⟩), .slice (some ⟨g, 0, none⟩) cap c, .int .i64 (i : Int), .pointer (some ⟨g, i * 3, none⟩), .pointer (some ⟨g, i * 3 + 1, none⟩), .string st, .int .i64 ((datN M i).length : Int), .agg #[.int .i64 (i : Int), .int .i64 kd, .int .i64 (lkN M i), .int .i64 ((datN M i).length : Int)], undef, .int .i64 0] := ⟨_, rfl⟩
    refine wp_region_tail (frame := fun y => ⟨#[.agg #[.slice (some ⟨g, 0, none⟩) cap c], .string s, .pointer (some ⟨w.heap.size, 0, none⟩), undef, .pointer (some ⟨w.heap.size + 1, 0, none⟩), y 19, .int .i64 (i : Int), .int .i64 0, .tuple #[.int .i64 (i : Int), .int .i64 0], .agg #[.slice (some ⟨g, 0, none⟩) cap c], .string s, .tuple #[.int .i64 (i : Int), .int .i64 0], .int .i64 (i : Int), .int .i64 0, .int .i64 0, .bool false, undef, undef, y 0, y 1, y 2, y 3, y 4, y 5, y 6, y 7, y 8, y 9, y 10, y 11, y 12, y 13, y 14, y 15, y 16, y 17], []⟩) (V := fun k => Vs.getD k undef) (n := 18)
      (R := fun m w2 => if m = 18 then Below w1.heap.size w1 w2 else ∃ w3, Below w1.heap.size w1 w3 ∧ w2 = (((w3.setCell ⟨w.heap.size + 1, 0, none⟩ (.int .i64 (i : Int))).setCell ⟨w.heap.size + 1, 1, none⟩ (.int .i64 kd)).setCell ⟨w.heap.size + 1, 2, none⟩ (.int .i64 (lkN M i))).setCell ⟨w.heap.size + 1, 3, none⟩ (.int .i64 ((datN M i).length : Int)))
      (fun k => if k = 19 then .int .i64 0 else undef) (by kernel_rfl) (by kernel_rfl) (by decide) ?_ rfl (by rw [if_pos rfl]; exact below_drewN (Below.refl w1.heap.size w1) 1) ?_ ?_
    · intro j hj o ho k hk
      have hjl : j < 20 := (Array.getElem?_eq_some_iff.1 ho).1
      obtain rfl | rfl : j = 18 ∨ j = 19 := by omega
      · obtain rfl := Option.some.inj ho
        exact (show ∀ k, k < 18 → k ∈ predsL _ by decide) k hk
      · obtain rfl := Option.some.inj ho
        exact (show ∀ k, k < 19 → k ∈ predsL _ by decide) k hk
    · refine ⟨?_, ?_, ?_, ?_, ?_, ?_, ?_, ?_, ?_, ?_, ?_, ?_, ?_, ?_, ?_, ?_, ?_, ?_, ?_, ?_, trivial⟩
      · intro y w2 hR hV K hK
        have hR : Below w1.heap.size w1 w2 := by simpa using hR
        obtain ⟨k0, k1, k2⟩ := HK.out w2 hR
        have hU := (hR.block _ (blk_lt HT1.out)).trans HT1.out
        go_simp
        exact hK _ _ (by rw [hVs]; simp [updV]) (by simpa using hR)
      · intro y w2 hR hV K hK
        have hR : Below w1.heap.size w1 w2 := by simpa using hR
        obtain ⟨k0, k1, k2⟩ := HK.out w2 hR
        have hU := (hR.block _ (blk_lt HT1.out)).trans HT1.out
        go_simp
        exact hK _ _ (by rw [hVs]; simp [updV]) (by simpa using hR)
      · intro y w2 hR hV K hK
        have h1 : y 1 = .pointer (some ⟨w.heap.size, 0, none⟩) := (hV 1 (by decide)).trans (by rw [hVs]; rfl)
        have hR : Below w1.heap.size w1 w2 := by simpa using hR
        obtain ⟨k0, k1, k2⟩ := HK.out w2 hR
        have hU := (hR.block _ (blk_lt HT1.out)).trans HT1.out
        go_simp
        exact hK _ _ (by rw [hVs]; simp [updV, h1]) (by simpa using hR)
      · intro y w2 hR hV K hK
        have hR : Below w1.heap.size w1 w2 := by simpa using hR
        obtain ⟨k0, k1, k2⟩ := HK.out w2 hR
        have hU := (hR.block _ (blk_lt HT1.out)).trans HT1.out
        go_simp
        exact hK _ _ (by rw [hVs]; simp [updV]) (by simpa using hR)
      · intro y w2 hR hV K hK
        have h2 : y 2 = .slice (some ⟨g, 0, none⟩) cap c := (hV 2 (by decide)).trans (by rw [hVs]; rfl)
        have h3 : y 3 = .int .i64 (i : Int) := (hV 3 (by decide)).trans (by rw [hVs]; rfl)
        have hR : Below w1.heap.size w1 w2 := by simpa using hR
        obtain ⟨k0, k1, k2⟩ := HK.out w2 hR
        have hU := (hR.block _ (blk_lt HT1.out)).trans HT1.out
        go_simp
        exact hK _ _ (by rw [hVs]; simp [updV, h2, h3]) (by simpa using hR)
      · intro y w2 hR hV K hK
        have h4 : y 4 = .pointer (some ⟨g, i * 3, none⟩) := (hV 4 (by decide)).trans (by rw [hVs]; rfl)
        have hR : Below w1.heap.size w1 w2 := by simpa using hR
        obtain ⟨k0, k1, k2⟩ := HK.out w2 hR
        have hU := (hR.block _ (blk_lt HT1.out)).trans HT1.out
        go_simp
        exact hK _ _ (by rw [hVs]; simp [updV, h4]) (by simpa using hR)
      · intro y w2 hR hV K hK
        have h5 : y 5 = .pointer (some ⟨g, i * 3, none⟩) := (hV 5 (by decide)).trans (by rw [hVs]; rfl)
        have hR : Below w1.heap.size w1 w2 := by simpa using hR
        obtain ⟨k0, k1, k2⟩ := HK.out w2 hR
        have hU := (hR.block _ (blk_lt HT1.out)).trans HT1.out
        go_simp
        exact hK _ _ (by rw [hVs]; simp [updV, h5]) (by simpa using hR)
      · intro y w2 hR hV K hK
        have hR : Below w1.heap.size w1 w2 := by simpa using hR
        obtain ⟨k0, k1, k2⟩ := HK.out w2 hR
        have hU := (hR.block _ (blk_lt HT1.out)).trans HT1.out
        go_simp
        exact hK _ _ (by rw [hVs]; simp [updV]) (by simpa using hR)
      · intro y w2 hR hV K hK
        have hR : Below w1.heap.size w1 w2 := by simpa using hR
        obtain ⟨k0, k1, k2⟩ := HK.out w2 hR
        have hU := (hR.block _ (blk_lt HT1.out)).trans HT1.out
        go_simp
        exact hK _ _ (by rw [hVs]; simp [updV]) (by simpa using hR)
      · intro y w2 hR hV K hK
        have h7 : y 7 = .agg #[.slice (some ⟨g, 0, none⟩) cap c] := (hV 7 (by decide)).trans (by rw [hVs]; rfl)
        have h8 : y 8 = .int .i64 (i : Int) := (hV 8 (by decide)).trans (by rw [hVs]; rfl)
        have hR : Below w1.heap.size w1 w2 := by simpa using hR
        obtain ⟨k0, k1, k2⟩ := HK.out w2 hR
        have hU := (hR.block _ (blk_lt HT1.out)).trans HT1.out
        go_simp
        go_at_call 38
        refine (HLK.out w2 hR).mono ?_
        rintro e w3 ⟨rfl, hb3⟩
        exact hK _ _ (by rw [hVs]; simp [updV, h7, h8]) (by simpa using below_call hR hb3 (Nat.le_refl _))
      · intro y w2 hR hV K hK
        have hR : Below w1.heap.size w1 w2 := by simpa using hR
        obtain ⟨k0, k1, k2⟩ := HK.out w2 hR
        have hU := (hR.block _ (blk_lt HT1.out)).trans HT1.out
        go_simp
        exact hK _ _ (by rw [hVs]; simp [updV]) (by simpa using hR)
      · intro y w2 hR hV K hK
        have h10 : y 10 = .pointer (some ⟨w.heap.size, 0, none⟩) := (hV 10 (by decide)).trans (by rw [hVs]; rfl)
        have hR : Below w1.heap.size w1 w2 := by simpa using hR
        obtain ⟨k0, k1, k2⟩ := HK.out w2 hR
        have hU := (hR.block _ (blk_lt HT1.out)).trans HT1.out
        go_simp
        exact hK _ _ (by rw [hVs]; simp [updV, h10]) (by simpa using hR)
      · intro y w2 hR hV K hK
        have hR : Below w1.heap.size w1 w2 := by simpa using hR
        obtain ⟨k0, k1, k2⟩ := HK.out w2 hR
        have hU := (hR.block _ (blk_lt HT1.out)).trans HT1.out
        go_simp
        exact hK _ _ (by rw [hVs]; simp [updV]) (by simpa using hR)
      · intro y w2 hR hV K hK
        have h11 : y 11 = .slice (some ⟨g, 0, none⟩) cap c := (hV 11 (by decide)).trans (by rw [hVs]; rfl)
        have h12 : y 12 = .int .i64 (i : Int) := (hV 12 (by decide)).trans (by rw [hVs]; rfl)
        have hR : Below w1.heap.size w1 w2 := by simpa using hR
        obtain ⟨k0, k1, k2⟩ := HK.out w2 hR
        have hU := (hR.block _ (blk_lt HT1.out)).trans HT1.out
        go_simp
        exact hK _ _ (by rw [hVs]; simp [updV, h11, h12]) (by simpa using hR)
      · intro y w2 hR hV K hK
        have h13 : y 13 = .pointer (some ⟨g, i * 3, none⟩) := (hV 13 (by decide)).trans (by rw [hVs]; rfl)
        have hR : Below w1.heap.size w1 w2 := by simpa using hR
        obtain ⟨k0, k1, k2⟩ := HK.out w2 hR
        have hU := (hR.block _ (blk_lt HT1.out)).trans HT1.out
        go_simp
        exact hK _ _ (by rw [hVs]; simp [updV, h13]) (by simpa using hR)
      · intro y w2 hR hV K hK
        have h14 : y 14 = .pointer (some ⟨g, i * 3 + 1, none⟩) := (hV 14 (by decide)).trans (by rw [hVs]; rfl)
        have hR : Below w1.heap.size w1 w2 := by simpa using hR
        obtain ⟨k0, k1, k2⟩ := HK.out w2 hR
        have hU := (hR.block _ (blk_lt HT1.out)).trans HT1.out
        go_simp
        exact hK _ _ (by rw [hVs]; simp [updV, h14]) (by simpa using hR)
      · intro y w2 hR hV K hK
        have h15 : y 15 = .string st := (hV 15 (by decide)).trans (by rw [hVs]; rfl)
        have hR : Below w1.heap.size w1 w2 := by simpa using hR
        obtain ⟨k0, k1, k2⟩ := HK.out w2 hR
        have hU := (hR.block _ (blk_lt HT1.out)).trans HT1.out
        go_simp
        exact hK _ _ (by rw [hVs]; simp [updV, h15]) (by simpa using hR)
      · intro y w2 hR hV K hK
        have h0 : y 0 = .int .i64 (i : Int) := (hV 0 (by decide)).trans (by rw [hVs]; rfl)
        have h6 : y 6 = .int .i64 kd := (hV 6 (by decide)).trans (by rw [hVs]; rfl)
        have h9 : y 9 = .int .i64 (lkN M i) := (hV 9 (by decide)).trans (by rw [hVs]; rfl)
        have h16 : y 16 = .int .i64 ((datN M i).length : Int) := (hV 16 (by decide)).trans (by rw [hVs]; rfl)
        have hR : Below w1.heap.size w1 w2 := by simpa using hR
        obtain ⟨k0, k1, k2⟩ := HK.out w2 hR
        have hU := (hR.block _ (blk_lt HT1.out)).trans HT1.out
        go_simp
        exact hK _ _ (by rw [hVs]; simp [updV, h0, h6, h9, h16]) (by simpa using hR)
      · intro y w2 hR hV K hK
        have h17 : y 17 = .agg #[.int .i64 (i : Int), .int .i64 kd, .int .i64 (lkN M i), .int .i64 ((datN M i).length : Int)] := (hV 17 (by decide)).trans (by rw [hVs]; rfl)
        have hR : Below w1.heap.size w1 w2 := by simpa using hR
        have hU := (hR.block _ (blk_lt HU1.out)).trans HU1.out
        have c0 := cell_blk_some hU (i := 0) rfl
        have f0 := free_blk (i := 0) hU
        have c1 := cell_blk_some hU (i := 1) rfl
        have f1 := free_blk (i := 1) hU
        have c2 := cell_blk_some hU (i := 2) rfl
        have f2 := free_blk (i := 2) hU
        have c3 := cell_blk_some hU (i := 3) rfl
        have f3 := free_blk (i := 3) hU
        go_simp
        exact hK _ _ (by rw [hVs]; simp [updV, h17]) (by simpa using ⟨w2, hR, rfl⟩)
      · intro y w2 hR hV K hK
        obtain ⟨w3, hb3, rfl⟩ : ∃ w3, Below w1.heap.size w1 w3 ∧ w2 = (((w3.setCell ⟨w.heap.size + 1, 0, none⟩ (.int .i64 (i : Int))).setCell ⟨w.heap.size + 1, 1, none⟩ (.int .i64 kd)).setCell ⟨w.heap.size + 1, 2, none⟩ (.int .i64 (lkN M i))).setCell ⟨w.heap.size + 1, 3, none⟩ (.int .i64 ((datN M i).length : Int)) := by simpa using hR
        go_simp
        exact hK _ _ (by rw [hVs]; simp [updV]) (by simpa using ⟨w3, hb3, rfl⟩)
    · intro y w2 hall hR
      obtain ⟨w3, hb3, rfl⟩ : ∃ w3, Below w1.heap.size w1 w3 ∧ w2 = (((w3.setCell ⟨w.heap.size + 1, 0, none⟩ (.int .i64 (i : Int))).setCell ⟨w.heap.size + 1, 1, none⟩ (.int .i64 kd)).setCell ⟨w.heap.size + 1, 2, none⟩ (.int .i64 (lkN M i))).setCell ⟨w.heap.size + 1, 3, none⟩ (.int .i64 ((datN M i).length : Int)) := by simpa using hR
      have h19 : y 19 = .int .i64 0 := (hall 19 (by decide)).trans (by rw [hVs]; rfl)
      have hU := (hb3.block _ (blk_lt HU1.out)).trans HU1.out
      have HB3 := Lib.hid (below_call HB1.out hb3 (Nat.le_refl _))
      have hfin := blk_set (blk_set (blk_set (blk_set hU (i := 0) (.int .i64 (i : Int))) (i := 1) (.int .i64 kd)) (i := 2) (.int .i64 (lkN M i))) (i := 3) (.int .i64 ((datN M i).length : Int))
      have hfr := ((((Fr.refl (fun b => b = w.heap.size + 1) w3).setCell ⟨w.heap.size + 1, 0, none⟩ rfl (.int .i64 (i : Int))).setCell ⟨w.heap.size + 1, 1, none⟩ rfl (.int .i64 kd)).setCell ⟨w.heap.size + 1, 2, none⟩ rfl (.int .i64 (lkN M i))).setCell ⟨w.heap.size + 1, 3, none⟩ rfl (.int .i64 ((datN M i).length : Int))
      have HFIN := Lib.hid hfin; have HFR := Lib.hid hfr
      clear hU hfin hfr hall hb3 hR
      generalize (((w3.setCell ⟨w.heap.size + 1, 0, none⟩ (.int .i64 (i : Int))).setCell ⟨w.heap.size + 1, 1, none⟩ (.int .i64 kd)).setCell ⟨w.heap.size + 1, 2, none⟩ (.int .i64 (lkN M i))).setCell ⟨w.heap.size + 1, 3, none⟩ (.int .i64 ((datN M i).length : Int)) = wf at *
      go_wp2_with fail
      refine bodyPost_ret (results_row_tmp rfl _ _ (w.heap.size + 1) _ _ _ _ rfl HFIN.out Tryz.underlying49 rfl (by kernel_rfl)) rfl ?_
      rw [HR.out]
      exact ⟨by simp [h19]; rfl, HB3.out.trans (HFR.out.toBelow HB3.out.size fun x hx => by omega)⟩
end
end Go.Proofs.YtoofcnehoffllaaGreat
