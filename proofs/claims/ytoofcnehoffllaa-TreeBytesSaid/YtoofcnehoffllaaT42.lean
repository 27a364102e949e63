/- Walk of the statement TreeBytes: it returns true. -/
import Derived.Test.YtoofcnehoffllaaT41
namespace Go.Proofs.Ytoofcnehoffllaa
open Go.RowKit

theorem srcB (w : World) (z : Int) : SrcG 1 (w.alloc (.cells #[.int .u8 z] 5)) (.slice (some ⟨w.heap.size, 0, none⟩) 1 1) 1 [.int .u8 z] :=
  SrcG.block (blk_new rfl) rfl (fun u hu => by rw [List.mem_singleton] at hu; rw [hu]; rfl)
theorem pF : (⟨#[47, 102]⟩ : ByteArray) = pathS [nF] false := rfl
set_option maxHeartbeats 16000000 in
set_option maxRecDepth 100000 in
theorem lawBytes_any (v0 : Value) (xs : List (Int × Int)) (v1 : Value) (ys : List Int) (W : World) (hx : ArgW W v0 xs) (hy : ArgB W v1 ys) (hyb : ∀ y ∈ ys, 0 ≤ y ∧ y < 256) : Calls Try.prog 5 #[v0, v1] W fun e w' => e = .returned (.bool true) ∧ Below W.heap.size W w' := by
  have HA := Lib.hid awake_any
  have HX := Lib.hid hx; have HY := Lib.hid hy; have HYB := Lib.hid hyb
  obtain ⟨xa, xc, rfl⟩ : ∃ a c, v0 = .slice a xs.length c := by
    obtain ⟨a, c, h, _⟩ := hx
    exact ⟨a, c, h⟩
  obtain ⟨ya, yc, rfl, hyc, -⟩ := hy
  clear hx hyb
  by_cases h300 : 300 < ys.length
  · have q1 : decide ((300 : Int) < (ys.length : Int)) = true := dec_true (by omega)
    have q2 : (300 : Int) < (ys.length : Int) := by omega
    go_enter Try.func5, Try.ntmps5
    go_wp2_with fail
    refine (HA.out _).mono ?_
    rintro e w1 ⟨rfl, hb1⟩
    have HB1 := Lib.hid hb1
    clear hb1
    go_wp2_with fail
    refine (HA.out _).mono ?_
    rintro e w2 ⟨rfl, hb2⟩
    have HB2 := Lib.hid (below_call HB1.out hb2 (Nat.le_refl _))
    clear hb2
    go_wp2_with fail
    go_ret
    exact ⟨rfl, HB2.out⟩
  · have q1 : decide ((300 : Int) < (ys.length : Int)) = false := dec_false (by omega)
    have q2 : (ys.length : Int) ≤ 300 := by omega
    go_enter Try.func5, Try.ntmps5
    go_wp2_with fail
    refine (HA.out _).mono ?_
    rintro e w1 ⟨rfl, hb1⟩
    have HB1 := Lib.hid hb1
    have HN := Lib.hid (new_any (n := 4) (by decide) (by decide) w1)
    clear hb1 HA
    go_wp2_with fail
    refine HN.out.mono ?_
    rintro e w2 ⟨tb, nb, eb, b2, rfl, hT, h1, h2, h3, h4, hb2⟩
    have hs1 := HB1.out.size
    have L0 := LAt.new (w0 := W) (by decide) hT (by omega) (by omega) (by omega) (by omega) (below_call HB1.out hb2 (Nat.le_refl _))
    have hC := L0.create ⟨#[47, 102]⟩ (by decide)
    rw [pF, root_make (newM_full (by decide)) okF_ (newM_ent _ _) (new_least (by decide)), dat_new] at hC
    have HC := Lib.hid hC
    clear HN hT h1 h2 h3 h4 hb2 hs1 L0 hC
    rw [← pF] at HC
    go_wp2_with fail
    refine HC.out.mono ?_
    rintro e w3 ⟨rfl, hL3⟩
    obtain ⟨F3, hF3⟩ := hL3.ft
    have HW3 := Lib.hid (WSt.nil hF3)
    clear hL3 hF3 HC
    go_wp2_with fail
    go_loopw [9, 10] (fun sv i wy => ∃ (t : Nat) (D : List Int) (F : Nat → Prop), t ≤ xs.length ∧ t ≤ 20 ∧ i = .int .i64 t ∧ WSt W wy tb F (dataM nF D) sv D ∧ D.length ≤ 1800) (fun _ i _ => xs.length - (RowKit.intOf i).toNat)
    case atStart => exact ⟨0, [], F3, by omega, by omega, rfl, HW3.out, by decide⟩
    case round =>
      obtain ⟨t, D, F, ht, ht20, rfl, hst, hD⟩ := hrel
      have HST := Lib.hid hst
      obtain ⟨va, vc, rfl⟩ := own_shape hst.own
      have hD' : (D.length : Int) ≤ 1800 := by omega
      clear hst HW3
      by_cases htl : t < xs.length ∧ t < 20
      · obtain ⟨c1, c2⟩ := htl
        have q3 : decide ((t : Int) < (xs.length : Int)) = true := dec_true (by omega)
        have q4 : decide ((t : Int) < 20) = true := dec_true (by omega)
        have q5 : (t : Int) < (xs.length : Int) := by omega
        have q6 : (0 : Int) ≤ (t : Int) := by omega
        obtain ⟨xa', xc', e1, hcell⟩ := HX.out
        injection e1 with e1 _ e3
        subst e1 e3
        obtain ⟨g, o, rfl, hg, hcell⟩ := hcell (by omega)
        obtain ⟨x, hxt⟩ : ∃ x, xs[t]? = some x := ⟨_, List.getElem?_eq_getElem c1⟩
        obtain ⟨k1, k2⟩ := hcell t x hxt
        have k1 := (cell_below HST.out.lft.bel hg).trans k1
        have k2 := (cell_below HST.out.lft.bel hg).trans k2
        obtain ⟨x1, x2⟩ := x
        obtain ⟨p, hp, hr⟩ := rest_of x1 1500 (by decide) (by decide)
        have hr : RowKit.wrap64 ((IntKind.u64.wrap x1).tmod 1500) = (p : Int) := hr
        have hp' : (p : Int) < 1500 := by omega
        have hp0 : (0 : Int) ≤ (p : Int) := by omega
        clear hcell hxt
        by_cases h3 : x2.tmod 4 = 3
        · have hC := truncate_any HST.out.lft.at_ HST.out.lft.good.1 ⟨#[47, 102]⟩ (by decide) (p : Int) (by omega)
          have hgd := HST.out.lft.good.trunc ⟨#[47, 102]⟩ (p : Int)
          rw [pF, dat_trunc okF_ (by omega)] at hC hgd
          rw [← pF] at hC
          have HC := Lib.hid hC; have HGD := Lib.hid hgd
          clear hC hgd
          go_wp2_with fail
          refine HC.out.mono ?_
          rintro e w5 ⟨rfl, hl5⟩
          obtain ⟨F', hst5⟩ := HST.out.left hl5 HGD.out
          have HST5 := Lib.hid hst5
          clear hl5 hst5 HC HGD HST k1 k2 h3 hr
          go_wp2_with fail
          go_loopw [9] (fun sv wy => ∃ (L : List Int) (j : Nat), WSt W wy tb F' (dataM nF (sizedN D p)) sv L ∧ L = D ++ List.replicate j 0 ∧ j ≤ p - D.length) (fun sv _ => p - lenV sv)
          case atStart => exact ⟨D, 0, HST5.out, by simp, by omega⟩
          case round =>
            obtain ⟨L, j, hst, hLj, hj⟩ := hrel
            have HST6 := Lib.hid hst
            obtain ⟨va6, vc6, rfl⟩ := own_shape hst.own
            have hLl : L.length = D.length + j := by rw [hLj, List.length_append, List.length_replicate]
            have HLJ := Lib.hid hLj
            have hL6 : (L.length : Int) ≤ 4000 := by omega
            have HLL := Lib.hid hLl
            clear hst hLj HST5 hLl
            by_cases hlp : L.length < p
            · have r1 : (L.length : Int) < (p : Int) := by omega
              have OW := Lib.hid (own_frame HST6.out.own (S := fun _ => False) ((Fr.refl _ wr).alloc (.cells #[.int .u8 0] 5)) fun _ _ => id)
              have hzz : W.heap.size ≤ (wr.alloc (.cells #[.int .u8 0] 5)).heap.size := by have := HST6.out.lft.bel.size; simp; omega
              go_wp2_with (refine wpList_append_g (by rfl) (.tmp 75) (.tmp 76) (by rfl) elByte (by rfl) OW.out (by rfl) (srcB wr 0) (by unfold maxLen; omega) (by omega) hzz ?_)
              intro v7 w7 ho7 hf7 hv7
              obtain ⟨va7, vc7, rfl⟩ := own_shape ho7
              have HST7 := Lib.hid (HST6.out.push ho7 hf7 hv7)
              clear ho7 hf7 hv7 OW hzz HST6
              go_wp2_with fail
              go_roundw
              case rel => exact ⟨L ++ [0], j + 1, HST7.out, by rw [HLJ.out, List.append_assoc, List.replicate_succ'], by have := HLL.out; omega⟩
              case measure => simp only [lenV]; omega
            · have r1 : ¬ (L.length : Int) < (p : Int) := by omega
              have hjp : j = p - D.length := by have := HLL.out; omega
              have hsz : L.take p = sizedN D p := by rw [HLJ.out, hjp]; rfl
              have HSZ := Lib.hid hsz
              clear hsz hjp
              rcases HST6.out.own.2 with ⟨e, h0⟩ | ⟨g6, c6, cur, e, h0, hg6, hc6, hm6, hs6, ht6⟩
              · injection e with e1 e2 e3
                subst e1 e3
                have hp00 : p = 0 := by omega
                have hcut := HST6.out.cut (k := p) (by omega)
                rw [HSZ.out] at hcut
                subst hp00
                have HCUT := Lib.hid hcut
                clear hcut HST6
                go_wp2_with fail
                go_roundw
                case rel => exact ⟨t + 1, sizedN D 0, F', by omega, by omega, by go_num, HCUT.out, by rw [sizedN_length]; omega⟩
                case measure => simp only [RowKit.intOf]; omega
              · injection e with e1 e2 e3
                subst e1 e3
                have hcut := HST6.out.cut (k := p) (by omega)
                rw [HSZ.out] at hcut
                have HCUT := Lib.hid hcut
                have m1 : (p : Int) ≤ (vc6 : Int) := by omega
                clear hcut HST6 hg6 ht6
                go_wp2_with fail
                go_roundw
                case rel => exact ⟨t + 1, sizedN D p, F', by omega, by omega, by go_num, HCUT.out, by rw [sizedN_length]; omega⟩
                case measure => simp only [RowKit.intOf]; omega
        · obtain ⟨q, hq, hr2⟩ := rest_of x2 (ys.length + 1) (by omega) (by omega)
          have hr2 : RowKit.wrap64 ((IntKind.u64.wrap x2).tmod ((ys.length : Int) + 1)) = (q : Int) := by
            rw [show (ys.length : Int) + 1 = ((ys.length + 1 : Nat) : Int) by omega]; exact hr2
          obtain ⟨X, hX⟩ : ∃ X, X = ys.take q := ⟨_, rfl⟩
          have hXl : X.length = q := by rw [hX, List.length_take]; omega
          have hXb : ∀ y ∈ X, 0 ≤ y ∧ y < 256 := fun y hy => HYB.out y (by rw [hX] at hy; exact List.mem_of_mem_take hy)
          have hxy : X.length ≤ ys.length := by omega
          have hXc : (0 < X.length → ∃ g o, ya = some ⟨g, o, none⟩ ∧ g < W.heap.size ∧ ∀ (j : Nat) x, X[j]? = some x → W.cell? ⟨g, o + j, none⟩ = some (.int .u8 x)) := fun h0 => by
            obtain ⟨a', c', e, hc', hh⟩ := HY.out
            injection e with e1 _ _
            subst e1
            obtain ⟨gy, oy, rfl, hgy, hcy⟩ := hh (by omega)
            refine ⟨gy, oy, rfl, hgy, fun j z hz => hcy j z ?_⟩
            rw [hX, List.getElem?_take] at hz
            split at hz
            · exact hz
            · cases hz
          subst hXl
          have hXs : SrcG 1 W (.slice ya X.length yc) X.length (u8s X) := ⟨ya, yc, rfl, by rw [u8s_length]; omega, u8s_one X, fun h0 => by
            obtain ⟨gy, oy, rfl, hgy, hcy⟩ := hXc h0
            refine ⟨_, rfl, fun j u hu => ?_⟩
            unfold u8s at hu
            rw [List.getElem?_map] at hu
            cases hz : X[j]? with
            | none => rw [hz] at hu; cases hu
            | some z =>
              rw [hz] at hu
              injection hu with hu
              rw [Addr.add_lit, ← hu]
              exact hcy j z hz⟩
          have hadd : ∀ ad, ya = some ad → ad.add 0 = ad := fun ad _ => by simp [Addr.add]
          have hq' : (X.length : Int) ≤ (ys.length : Int) := by omega
          have hqc : (X.length : Int) ≤ (yc : Int) := by omega
          have hq0 : (0 : Int) ≤ (X.length : Int) := by omega
          have hxsl : (if yc = 0 then ya else Option.map (fun x => x.add 0) ya) = ya := by
            cases ya with
            | none => simp
            | some ad => simp [hadd ad rfl]
          have hXk : 0 < X.length → ∀ a c ad, (Value.slice ya X.length yc) = .slice a X.length c → a = some ad → ad.block < W.heap.size := fun h0 a c ad e1 e2 => by
            obtain ⟨gy, oy, e3, hgy, _⟩ := hXc h0
            injection e1 with e1 _ _
            rw [← e1, e3] at e2
            injection e2 with e2
            rw [← e2]; exact hgy
          have hC := write_any HST.out.lft.at_ HST.out.lft.good.1 ⟨#[47, 102]⟩ (by decide) (p : Int) (by omega) (hXs.fr (S := fun x => W.heap.size ≤ x) ⟨HST.out.lft.bel.os, HST.out.lft.bel.tape, HST.out.lft.bel.output, HST.out.lft.bel.size, fun b hb hn => HST.out.lft.bel.block b hb⟩ (fun h0 a c ad e1 e2 h => by
              have := hXk h0 a c ad e1 e2
              have h : W.heap.size ≤ ad.block := h
              omega)) (fun h0 a c ad e1 e2 h => by
              have := hXk h0 a c ad e1 e2
              have := HST.out.lft.low _ h
              omega) (by omega)
          have hgd := HST.out.lft.good.write ⟨#[47, 102]⟩ (p : Int) hXb
          rw [pF, dat_write okF_ (by omega) (by omega)] at hC hgd
          rw [← pF] at hC
          have HXC := Lib.hid hXc
          clear hX hXb hXs hXk hXc hadd
          by_cases h0 : X.length = 0
          · rw [if_pos h0] at hC hgd
            have HC := Lib.hid hC; have HGD := Lib.hid hgd
            have h0i : ((X.length : Int) == 0) = true := by rw [beq_iff_eq]; omega
            clear hC hgd h0
            go_wp2_with fail
            refine HC.out.mono ?_
            rintro e w5 ⟨rfl, hl5⟩
            obtain ⟨F', hst5⟩ := HST.out.left hl5 HGD.out
            have HST5 := Lib.hid hst5
            clear hl5 hst5 HC HGD HST k1 k2 h3 hr hr2
            go_wp2_with fail
            go_roundw
            case rel => exact ⟨t + 1, D, F', by omega, by omega, by go_num, HST5.out, hD⟩
            case measure => simp only [RowKit.intOf]; omega
          · rw [if_neg h0] at hC hgd
            have HC := Lib.hid hC; have HGD := Lib.hid hgd
            have h0i : (X.length : Int) ≠ 0 := by omega
            have h0b : ((X.length : Int) == 0) = false := beq_eq_false_iff_ne.2 h0i
            clear hC hgd
            go_wp2_with fail
            refine HC.out.mono ?_
            rintro e w5 ⟨rfl, hl5⟩
            obtain ⟨F', hst5⟩ := HST.out.left hl5 HGD.out
            have HST5 := Lib.hid hst5
            clear hl5 hst5 HC HGD HST k1 k2 h3 hr hr2
            go_wp2_with fail
            obtain ⟨T, hT⟩ : ∃ T, T = p + X.length := ⟨_, rfl⟩
            have hTi : (p : Int) + (X.length : Int) = (T : Int) := by omega
            have hT2 : (T : Int) ≤ 1800 := by omega
            have hT3 : T ≤ 1800 := by omega
            have HT := Lib.hid hT
            clear hT
            go_loopw [9] (fun sv wy => ∃ (L : List Int) (j : Nat), WSt W wy tb F' (dataM nF (wrData D p X)) sv L ∧ L = D ++ List.replicate j 0 ∧ j ≤ T - D.length) (fun sv _ => T - lenV sv)
            case atStart => exact ⟨D, 0, HST5.out, by simp, by omega⟩
            case round =>
              obtain ⟨L, j, hst, hLj, hj⟩ := hrel
              have HST6 := Lib.hid hst
              obtain ⟨va6, vc6, rfl⟩ := own_shape hst.own
              have hLl : L.length = D.length + j := by rw [hLj, List.length_append, List.length_replicate]
              have HLJ := Lib.hid hLj
              have hL6 : (L.length : Int) ≤ 4000 := by omega
              have HLL := Lib.hid hLl
              clear hst hLj HST5 hLl
              by_cases hlp : L.length < T
              · have r1 : (L.length : Int) < (T : Int) := by omega
                have OW := Lib.hid (own_frame HST6.out.own (S := fun _ => False) ((Fr.refl _ wr).alloc (.cells #[.int .u8 0] 5)) fun _ _ => id)
                have hzz : W.heap.size ≤ (wr.alloc (.cells #[.int .u8 0] 5)).heap.size := by have := HST6.out.lft.bel.size; simp; omega
                go_wp2_with (refine wpList_append_g (by rfl) (.tmp 110) (.tmp 111) (by rfl) elByte (by rfl) OW.out (by rfl) (srcB wr 0) (by unfold maxLen; omega) (by omega) hzz ?_)
                intro v7 w7 ho7 hf7 hv7
                obtain ⟨va7, vc7, rfl⟩ := own_shape ho7
                have HST7 := Lib.hid (HST6.out.push ho7 hf7 hv7)
                clear ho7 hf7 hv7 OW hzz HST6
                go_wp2_with fail
                go_roundw
                case rel => exact ⟨L ++ [0], j + 1, HST7.out, by rw [HLJ.out, List.append_assoc, List.replicate_succ'], by have := HLL.out; omega⟩
                case measure => simp only [lenV]; omega
              · have r1 : ¬ (L.length : Int) < (T : Int) := by omega
                have hjp : j = T - D.length := by have := HLL.out; omega
                have hLz : L = sizedN D (max D.length T) := by rw [HLJ.out, hjp]; exact sized_grow
                have hwd : wrData D p X = splice L p X := by unfold wrData; rw [← HT.out, ← hLz]
                have HWD := Lib.hid hwd
                have hpx : p + X.length ≤ L.length := by have := HT.out; omega
                clear hjp hLz hwd
                rcases HST6.out.own.2 with ⟨e, h00⟩ | ⟨g6, c6, cur, e, h00, hg6, hc6, hm6, hs6, ht6⟩
                · omega
                injection e with e1 e2 e3
                subst e1 e3
                obtain ⟨gy, oy, hya, hgy, hcy⟩ := HXC.out (by omega)
                subst hya
                have HCY := Lib.hid hcy
                have hc7 : (L.length : Int) ≤ (vc6 : Int) := by omega
                clear hg6 ht6 hcy HXC hxsl
                go_wp2_with fail
                go_loopw [115] (fun kv wy => ∃ k : Nat, k ≤ X.length ∧ kv = .int .i64 k ∧ WSt W wy tb F' (dataM nF (wrData D p X)) (.slice (some ⟨g6, 0, none⟩) L.length vc6) (splice L p (X.take k))) (fun kv _ => X.length - (RowKit.intOf kv).toNat)
                case atStart => exact ⟨0, by omega, rfl, by rw [splice_zero]; exact HST6.out⟩
                case round =>
                  obtain ⟨k, hk, rfl, hst⟩ := hrel
                  have HST8 := Lib.hid hst
                  clear hst HST6
                  by_cases hkx : k < X.length
                  · have s1 : (k : Int) < (X.length : Int) := by omega
                    have s0 : (0 : Int) ≤ (k : Int) := by omega
                    obtain ⟨z, hz⟩ : ∃ z, X[k]? = some z := ⟨_, List.getElem?_eq_getElem hkx⟩
                    have hcz := (cell_below HST8.out.lft.bel hgy).trans (HCY.out k z hz)
                    have hlen : (splice L p (X.take k)).length = L.length := length_splice _ _ _ (by rw [List.length_take]; omega)
                    have hown := HST8.out.own
                    rcases hown.2 with ⟨e, _⟩ | ⟨g8, c8, cur8, e, _, hg8, hc8, _, hs8, _⟩
                    · injection e with e; cases e
                    injection e with e1 _ e3
                    injection e1 with e1
                    injection e1 with e1
                    subst e1 e3
                    have hpk : p + k < cur8.size := by omega
                    have y0 := cell_blk_some hg8 (Array.getElem?_eq_getElem hpk)
                    have y1 := free_blk (i := p + k) hg8
                    have s2 : (p : Int) + (k : Int) < (L.length : Int) := by omega
                    have hset := HST8.out
                    rw [← hlen] at hset
                    have hset := hset.set (p + k) z
                    rw [splice_set hz hpx, hlen] at hset
                    have HSET := Lib.hid hset
                    generalize cur8[p + k] = old at y0
                    clear hset hown hlen hz hg8 hc8 hs8 hpk HST8
                    go_wp2_with fail
                    go_roundw
                    case rel => exact ⟨k + 1, by omega, by go_num, HSET.out⟩
                    case measure => simp only [RowKit.intOf]; omega
                  · obtain rfl : k = X.length := by omega
                    have s1 : ¬ (X.length : Int) < (X.length : Int) := by omega
                    have hfin := HST8.out
                    rw [List.take_length, ← HWD.out] at hfin
                    have HFIN := Lib.hid hfin
                    clear hfin HST8
                    go_wp2_with fail
                    go_roundw
                    case rel => exact ⟨t + 1, wrData D p X, F', by omega, by omega, by go_num, HFIN.out, by rw [HWD.out, length_splice _ _ _ hpx]; have := HLL.out; omega⟩
                    case measure => simp only [RowKit.intOf]; omega
      · by_cases htl2 : t < xs.length
        · obtain rfl : t = 20 := by omega
          have q3 : decide (((20 : Nat) : Int) < (xs.length : Int)) = true := dec_true (by omega)
          have q4 : decide (((20 : Nat) : Int) < 20) = false := dec_false (by omega)
          have q5 : (20 : Int) < (xs.length : Int) := by omega
          have hR := read_any HST.out.lft.at0.at_ HST.out.lft.good.1 ⟨#[47, 102]⟩ (by decide) 0 4096 (by omega) (by omega)
          have hS := fun w' (hb : Below wr.heap.size wr w') => ((HST.out.below hb).lft.at0).stat ⟨#[47, 102]⟩ (by decide)
          rw [pF, dat_read okF_ (by omega)] at hR
          rw [pF, dat_stat okF_] at hS
          rw [← pF] at hR hS
          have HR := Lib.hid hR; have HS := Lib.hid hS
          clear hR hS
          unfold statV statA at HS
          dsimp only at HS
          go_wp2_with fail
          refine HR.out.mono ?_
          rintro e w5 ⟨rv, rfl, hrv, hb5⟩
          obtain ⟨ra, rc, rfl⟩ := own_shape hrv
          have HB5 := Lib.hid hb5; have HRV := Lib.hid hrv
          have HS5 := Lib.hid (HS.out w5 hb5)
          clear hb5 hrv HR HS
          go_wp2_with fail
          refine HS5.out.mono ?_
          rintro e w6 ⟨rfl, hb6⟩
          have hst6 := (HST.out.below HB5.out).below hb6
          have hb7 : Below w6.heap.size w6 (w6.alloc (.cells #[.int .i64 3, .int .i64 1, .int .i64 1, .int .i64 D.length] 39)) := (Below.refl _ w6).alloc (Nat.le_refl _) _
          have cv1 := SrcG.str (SrcG.of_own ((own_frame (own_frame HRV.out (S := fun _ => False) (Fr.below hb6) fun _ _ => id) (S := fun _ => False) (Fr.below hb7) fun _ _ => id)) (u8s_one D))
          have cv2 := SrcG.str (SrcG.of_own (own_frame hst6.own (S := fun _ => False) (Fr.below hb7) fun _ _ => id) (u8s_one D))
          have HBF := Lib.hid (hst6.below hb7).lft.bel
          clear hb6 hst6 HS5
          go_wp2_with fail
          go_ret
          exact ⟨by simp, HBF.out⟩
        · obtain rfl : t = xs.length := by omega
          have q3 : decide ((xs.length : Int) < (xs.length : Int)) = false := dec_false (by omega)
          have hR := read_any HST.out.lft.at0.at_ HST.out.lft.good.1 ⟨#[47, 102]⟩ (by decide) 0 4096 (by omega) (by omega)
          have hS := fun w' (hb : Below wr.heap.size wr w') => ((HST.out.below hb).lft.at0).stat ⟨#[47, 102]⟩ (by decide)
          rw [pF, dat_read okF_ (by omega)] at hR
          rw [pF, dat_stat okF_] at hS
          rw [← pF] at hR hS
          have HR := Lib.hid hR; have HS := Lib.hid hS
          clear hR hS
          unfold statV statA at HS
          dsimp only at HS
          go_wp2_with fail
          refine HR.out.mono ?_
          rintro e w5 ⟨rv, rfl, hrv, hb5⟩
          obtain ⟨ra, rc, rfl⟩ := own_shape hrv
          have HB5 := Lib.hid hb5; have HRV := Lib.hid hrv
          have HS5 := Lib.hid (HS.out w5 hb5)
          clear hb5 hrv HR HS
          go_wp2_with fail
          refine HS5.out.mono ?_
          rintro e w6 ⟨rfl, hb6⟩
          have hst6 := (HST.out.below HB5.out).below hb6
          have hb7 : Below w6.heap.size w6 (w6.alloc (.cells #[.int .i64 3, .int .i64 1, .int .i64 1, .int .i64 D.length] 39)) := (Below.refl _ w6).alloc (Nat.le_refl _) _
          have cv1 := SrcG.str (SrcG.of_own ((own_frame (own_frame HRV.out (S := fun _ => False) (Fr.below hb6) fun _ _ => id) (S := fun _ => False) (Fr.below hb7) fun _ _ => id)) (u8s_one D))
          have cv2 := SrcG.str (SrcG.of_own (own_frame hst6.own (S := fun _ => False) (Fr.below hb7) fun _ _ => id) (u8s_one D))
          have HBF := Lib.hid (hst6.below hb7).lft.bel
          clear hb6 hst6 HS5
          go_wp2_with fail
          go_ret
          exact ⟨by simp, HBF.out⟩
end Go.Proofs.Ytoofcnehoffllaa
