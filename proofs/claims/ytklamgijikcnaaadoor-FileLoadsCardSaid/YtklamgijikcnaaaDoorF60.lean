/- Walk of the reference's read at a block of pointers. -/
import Derived.Test.YtklamgijikcnaaaDoorF59
namespace Go.Proofs.YtklamgijikcnaaaDoor
open Go.RowKit

structure RowSt (w : World) (D : List Int) (L : List (Int × Int)) (rd : Int → Option (List Int)) (f : Nat) (n : Int) (l : List Int) (xb : Nat) (xs : Array Value) (s : Nat) (wr : World) : Prop where
  st : ∃ cs v, RdSt w cs wr ∧ IsMap cs (putE D (rowE rd f n l s)) v ∧ PRow wr v (L ++ negE (rowE rd f n l s))
  xb : wr.heap[xb]? = some (.cells xs 34 (0, 0))
  ok : rowOk rd f n l s = true
theorem RowSt.below {w wr w' : World} {D : List Int} {L : List (Int × Int)} {rd : Int → Option (List Int)} {f : Nat} {n : Int} {l : List Int} {xb : Nat} {xs : Array Value} {s : Nat} (h : RowSt w D L rd f n l xb xs s wr) (hb : Below wr.heap.size wr w') : RowSt w D L rd f n l xb xs s w' := by
  obtain ⟨cs, v, h1, h2, h3⟩ := h.st
  exact ⟨⟨cs, v, h1.below hb, h2, h3.below hb⟩, (hb.block _ (blk_lt h.xb)).trans h.xb, h.ok⟩
/-- There is room for what is to come. -/
def Fits (L : List (Int × Int)) (f : Nat) : Prop := L.length + capE f ≤ 1000000
/-- What may be read with so much fuel. -/
def MayRead (f : Nat) (n : Int) : Prop := f ≤ 4 ∧ (0 ≤ n ∧ n < 600 ∧ 1 ≤ f ∨ n ∈ metasN ∧ lvlN n + 1 ≤ f)
theorem wordsN_get (bs : List Int) {s : Nat} (h : s < 16) : (wordsN bs)[s]? = some (wordN bs s) := by
  unfold wordsN
  rw [List.getElem?_map, List.getElem?_range h]; rfl
theorem RdSt.setRow {w wr : World} {cs : Array Value} (h : RdSt w cs wr) (cs' : Array Value) : RdSt w cs' (wr.setRow w.heap.size cs') :=
  ⟨setRow_heap _ _ _ _ _ _ h.b0, (setRow_other _ _ _ _ (by omega)).trans h.b1, below_setRow h.bel (Nat.le_refl _) _⟩
set_option maxHeartbeats 8000000 in
set_option maxRecDepth 100000 in
theorem rread_any {vb vs : Value} {Z : List (Int × List Int)} : ∀ (f : Nat) (n a : Int) (cs : Array Value) (D : List Int) (v : Value) (L : List (Int × Int)) (w : World), MayRead f n → Fits L f → IsMap cs D v → PRow w v L → ZAt w vb vs Z →
    Calls Tryd.prog 42 #[.agg cs, .int .i64 n, .int .i64 a, vb, vs] w (RRes w D L (eN (rdZ Z) f n a) (gN (rdZ Z) f n a))
  | 0, n, a, cs, D, v, L, w, hn, _, _, _, _ => by exfalso; rcases hn.2 with h | h <;> omega
  | f + 1, n, a, cs, D, v, L, w, hmr, hL, hm, hv, hz => by
    by_cases ha : a < 4096
    · rcases hmr.2 with ⟨n0, n1, _⟩ | ⟨hnm, hlv⟩
      · rw [eN_data _ n0, gN_data _ n0 ha]
        exact (rread_data hm hv ha ⟨n0, n1⟩).mono fun e w' h => .inl ⟨rfl, h⟩
      · obtain ⟨hneg, -⟩ := metasN_neg n hnm
        have IH := Lib.hid (fun n a cs D v L w => rread_any (vb := vb) (vs := vs) (Z := Z) f n a cs D v L w)
        have HGM := Lib.hid (gN_meta (rdZ Z) (f := f) hneg ha)
        have hu0 := upTo_all Z a
        have HU := Lib.hid hu0
        have HB8 := Lib.hid (rdZ_by8 (a := a) hz.by8)
        have HMR := Lib.hid hmr; have HL := Lib.hid hL; have HM := Lib.hid hm; have HV := Lib.hid hv; have HZA := Lib.hid hz; have HNM := Lib.hid hnm
        have HZ1 := Lib.hid zeroRM_size
        have HSZ := Lib.hid hm.size
        have H1 := Lib.hid (hm.all1 hv)
        have HS := Lib.hid (RdSt.new w cs)
        have hzl := hz.len
        have HPL := Lib.hid (hz.pl.below HS.out.bel); have HST := Lib.hid (hz.st.below HS.out.bel)
        obtain ⟨pa, pc, rfl⟩ := hz.pl.shape
        obtain ⟨sa0, sc0, rfl, -⟩ := hz.st
        simp only [List.length_map] at HPL HST HZA IH
        clear hu0 hmr hL hm hv hz hnm hlv
        rw [List.length_map, List.length_map]
        go_enter Tryd.func42, Tryd.ntmps42
        go_wp2_with fail
        generalize ((w.alloc (.cells cs 68)).alloc (.cells Tryd.zeroCells68 68)) = w1 at *
        go_loop [12, 33] (fun b i => ∃ k : Nat, k ≤ Z.length ∧ i = .int .i64 k ∧ b = .string (strOfNums (upTo Z a k))) (fun _ i => Z.length - (RowKit.intOf i).toNat)
        case atStart => exact ⟨0, by omega, rfl, rfl⟩
        case round =>
          obtain ⟨k, hk, rfl, rfl⟩ := hrel
          by_cases hk9 : k < Z.length
          · obtain ⟨z, hzk⟩ : ∃ z, Z[k]? = some z := ⟨_, List.getElem?_eq_getElem hk9⟩
            obtain ⟨g, rfl, -, hgc, hcell⟩ := HPL.out.at (by rw [List.length_map]; omega)
            obtain ⟨g2, rfl, -, hgc2, hcell2⟩ := HST.out.at (by rw [List.length_map]; omega)
            have k1 := (hcell k (0, z.1) (by rw [List.getElem?_map, hzk]; rfl)).2
            have k2 := hcell2 k z.2 (by rw [List.getElem?_map, hzk]; rfl)
            have b0 : (0 : Int) ≤ (k : Int) := by omega
            have b1 : (k : Int) < (Z.length : Int) := by omega
            have HZK := Lib.hid hzk
            clear hcell hcell2 hzk
            by_cases e : z.1 = a
            · have e1 : (z.1 == a) = true := by simp [e]
              have HN := Lib.hid (upTo_hit HZA.out.nd HZK.out e)
              clear e
              go_wp2_with fail
              go_roundw
              case rel => exact ⟨k + 1, by omega, by go_num, by rw [HN.out]⟩
              case measure => simp only [RowKit.intOf]; omega
            · have e1 : (z.1 == a) = false := by simp [e]
              have HN := Lib.hid (upTo_miss HZK.out e)
              clear e
              go_wp2_with fail
              go_roundw
              case rel => exact ⟨k + 1, by omega, by go_num, by rw [HN.out]⟩
              case measure => simp only [RowKit.intOf]; omega
          · obtain rfl : k = Z.length := by omega
            rw [HU.out]
            obtain ⟨bs, hbs⟩ : ∃ bs, bs = (rdZ Z a).getD [] := ⟨_, rfl⟩
            rw [← hbs] at HB8 ⊢
            have hln : (strOfNums bs).size = bs.length := strOfNums_size bs
            by_cases h64 : bs.length = 64
            · have hrd : rdZ Z a = some bs := by
                cases hq : rdZ Z a with
                | none => rw [hq] at hbs; subst hbs; simp at h64
                | some x => rw [hq] at hbs; rw [hbs]; rfl
              rw [hrd] at HGM
              have hz64 : (strOfNums bs).size = 64 := by rw [hln, h64]
              have hwl : (wordsN bs).length = 16 := by unfold wordsN; simp
              have hgl : gN (rdZ Z) (f + 1) n a = (anyP (wordsN bs) 16 && rowOk (rdZ Z) f n (wordsN bs) 16) := by rw [HGM.out]; show (decide (bs.length = 64) && _) = _; rw [decide_eq_true h64, Bool.true_and]
              have hel := eN_meta (rdZ Z) (f := f) (a := a) (bs := bs) hneg hrd
              have HGL := Lib.hid hgl; have HEL := Lib.hid hel; have HWL := Lib.hid hwl
              have HIX : Hid (∀ (j : Nat), j < 64 → (∀ w, (Instr.index 9 (.string (strOfNums bs)) (.int .i64 (j : Int))).run Tryd.prog w = .ok (.int .u8 (bs.getD j 0)) w) ∧ 0 ≤ bs.getD j 0 ∧ bs.getD j 0 < 256) := Lib.hid fun j hj => ⟨fun w => run_index_str bs HB8.out j (by rw [h64]; exact hj) w, HB8.out _ (by rw [List.getD_eq_getElem?_getD, List.getElem?_eq_getElem (by rw [h64]; exact hj)]; exact List.getElem_mem _)⟩
              have HF := Lib.hid (rfind_neg (n := n) hneg w1)
              clear hbs hgl hel hwl hln h64 hrd HU HGM HPL HST
              generalize strOfNums bs = st at *
              go_wp2_with fail
              refine HF.out.mono ?_
              rintro e w2 ⟨xn, xl, xf, xr, ma, ml, mc, sa, sl, sc, rfl, hx, hb2⟩
              obtain ⟨rfl, rfl⟩ := hx HNM.out
              have HCH := Lib.hid fun s hs w => rchild_any HNM.out s hs xn xr (.slice ma ml mc) (.slice sa sl sc) w
              have hs2 := HS.out.below hb2
              have ST : Hid (RowSt w D L (rdZ Z) f n (wordsN bs) w2.heap.size #[.int .i64 xn, .int .i64 (lvlN n), .int .i64 (fstN n), .int .i64 xr, .slice ma ml mc, .slice sa sl sc] 0 (w2.alloc (.cells #[.int .i64 xn, .int .i64 (lvlN n), .int .i64 (fstN n), .int .i64 xr, .slice ma ml mc, .slice sa sl sc] 34))) :=
                Lib.hid ⟨⟨cs, v, hs2.below ((Below.refl _ w2).alloc (Nat.le_refl _) _), HM.out, by
                  rw [show rowE (rdZ Z) f n (wordsN bs) 0 = [] from rfl, show negE [] = [] from rfl, List.append_nil]
                  exact HV.out.below (hs2.below ((Below.refl _ w2).alloc (Nat.le_refl _) _)).bel⟩, blk_new rfl, rfl⟩
              have HX2 : Hid (w.heap.size + 1 < w2.heap.size) := Lib.hid (blk_lt hs2.b1)
              clear hb2 hs2 HF HS HM HV HSZ H1 hx
              go_wp2_with fail
              generalize w2.alloc (.cells #[.int .i64 xn, .int .i64 (lvlN n), .int .i64 (fstN n), .int .i64 xr, .slice ma ml mc, .slice sa sl sc] 34) = w3 at ST ⊢
              generalize w2.heap.size = xb at *
              go_loopw [14, 17] (fun b i wr => ∃ s : Nat, s ≤ 16 ∧ i = .int .i64 s ∧ b = .bool (anyP (wordsN bs) s) ∧ RowSt w D L (rdZ Z) f n (wordsN bs) xb #[.int .i64 xn, .int .i64 (lvlN n), .int .i64 (fstN n), .int .i64 xr, .slice ma ml mc, .slice sa sl sc] s wr) (fun _ i _ => 16 - (RowKit.intOf i).toNat)
              case atStart => exact ⟨0, by omega, rfl, rfl, ST.out⟩
              case round =>
                obtain ⟨s, hs, rfl, rfl, hst⟩ := hrel
                have HS := Lib.hid hst
                clear hst ST
                by_cases hs9 : s < 16
                · obtain ⟨i0, x0a, x0b⟩ := HIX.out (4 * s) (by omega)
                  obtain ⟨i1, x1a, x1b⟩ := HIX.out (4 * s + 1) (by omega)
                  obtain ⟨i2, x2a, x2b⟩ := HIX.out (4 * s + 2) (by omega)
                  obtain ⟨i3, x3a, x3b⟩ := HIX.out (4 * s + 3) (by omega)
                  rw [show ((4 * s : Nat) : Int) = 4 * (s : Int) by omega] at i0
                  rw [show ((4 * s + 1 : Nat) : Int) = 4 * (s : Int) + 1 by omega] at i1
                  rw [show ((4 * s + 2 : Nat) : Int) = 4 * (s : Int) + 2 by omega] at i2
                  rw [show ((4 * s + 3 : Nat) : Int) = 4 * (s : Int) + 3 by omega] at i3
                  have hw := wordsN_get bs hs9
                  unfold wordN at hw
                  generalize bs.getD (4 * s) 0 = x0 at *
                  generalize bs.getD (4 * s + 1) 0 = x1 at *
                  generalize bs.getD (4 * s + 2) 0 = x2 at *
                  generalize bs.getD (4 * s + 3) 0 = x3 at *
                  have HW := Lib.hid hw
                  have b0 : (0 : Int) ≤ (s : Int) := by omega
                  have b1 : (s : Int) < 16 := by omega
                  clear hw
                  go_wp2_with fail
                  go_quiet (fail)
                  have hp0 : 0 ≤ x0 + 256 * x1 + 65536 * x2 + 16777216 * x3 := by omega
                  generalize x0 + 256 * x1 + 65536 * x2 + 16777216 * x3 = p at HW hp0 ⊢
                  have HSQ := Lib.hid (HS.out.below (below_drewN (Below.refl _ wr) nq))
                  clear i0 i1 i2 i3 x0a x0b x1a x1b x2a x2b x3a x3b HS
                  generalize wr.drewN nq = wq at HSQ ⊢
                  have hgd : (wordsN bs).getD s 0 = p := by rw [List.getD_eq_getElem?_getD, HW.out]; rfl
                  have HGD := Lib.hid hgd
                  clear hgd
                  have hany := anyP_succ HW.out
                  have hok := rowOk_succ (rdZ Z) f n (wordsN bs) s
                  have hrw := rowE_succ (rdZ Z) f n (wordsN bs) s
                  by_cases e : p = 0
                  · have S1 : Hid (RowSt w D L (rdZ Z) f n (wordsN bs) xb #[.int .i64 xn, .int .i64 (lvlN n), .int .i64 (fstN n), .int .i64 xr, .slice ma ml mc, .slice sa sl sc] (s + 1) wq) := Lib.hid (by
                      obtain ⟨cs5, v5, h1, h2, h3⟩ := HSQ.out.st
                      have he : eS (rdZ Z) f n (wordsN bs) s = [] := by unfold eS; rw [HGD.out, if_pos e]
                      have ho : okS (rdZ Z) f n (wordsN bs) s = true := by unfold okS; rw [HGD.out, decide_eq_true e]; rfl
                      refine ⟨⟨cs5, v5, h1, ?_, ?_⟩, HSQ.out.xb, ?_⟩
                      · rw [hrw, he, List.append_nil]; exact h2
                      · rw [hrw, he, List.append_nil]; exact h3
                      · rw [hok, ho, HSQ.out.ok]; rfl)
                    have HAN : Hid (anyP (wordsN bs) (s + 1) = anyP (wordsN bs) s) := Lib.hid (by rw [hany, decide_eq_false (by simpa using e), Bool.or_false])
                    subst e
                    clear hany hok hrw HSQ
                    go_wp2_with fail
                    go_roundw
                    case rel => exact ⟨s + 1, by omega, by go_num, by rw [HAN.out], S1.out⟩
                    case measure => simp only [RowKit.intOf]; omega
                  · have HAN : Hid (anyP (wordsN bs) (s + 1) = true) := Lib.hid (by rw [hany, decide_eq_true e, Bool.or_true])
                    have e1 : (p == 0) = false := by simp [e]
                    have HE := Lib.hid e
                    have HOK := Lib.hid hok; have HRW := Lib.hid hrw
                    have HC := Lib.hid (HCH.out s hs9 wq)
                    obtain ⟨o, ho⟩ : ∃ o, o = childN n s := ⟨_, rfl⟩
                    rw [← ho] at HC
                    have HO := Lib.hid ho
                    have k0 := cell_blk_some HSQ.out.xb (i := 0) rfl
                    have k1 := cell_blk_some HSQ.out.xb (i := 1) rfl
                    have k2 := cell_blk_some HSQ.out.xb (i := 2) rfl
                    have k3 := cell_blk_some HSQ.out.xb (i := 3) rfl
                    have k4 := cell_blk_some HSQ.out.xb (i := 4) rfl
                    have k5 := cell_blk_some HSQ.out.xb (i := 5) rfl
                    clear hany hok hrw e ho
                    cases o with
                    | none =>
                      have HGF : Hid (gN (rdZ Z) (f + 1) n a = false) := Lib.hid (by
                        rw [HGL.out, rowOk_bad (rdZ Z) (j := s) (by omega) (by unfold okS; rw [HGD.out, decide_eq_false HE.out, ← HO.out]; rfl), Bool.and_false])
                      go_wp2_with fail
                      refine HC.out.mono ?_
                      rintro e w4 ⟨rfl, hb4⟩
                      obtain ⟨cs5, v5, h1, h2, h3⟩ := HSQ.out.st
                      have S4 := Lib.hid (h1.below hb4)
                      have H5 := Lib.hid (h2.all1 h3); have HZ5 := Lib.hid h2.size
                      clear HC hb4 h1 h2 h3 HSQ k0 k1 k2 k3 k4 k5
                      go_wp2_with (first | (refine wpList_load_row rfl 68 _ rfl _ rfl 68 _ _ _ S4.out.b0 Tryd.underlying68 rfl (by rw [HZ5.out]; kernel_rfl) ?_) | (refine wpList_store_row rfl 68 _ _ rfl (w.heap.size + 1) _ rfl rfl 68 _ S4.out.b1 (by rw [HZ5.out]; kernel_rfl) (by rw [HZ1.out, HZ5.out]) (all_one H5.out) ?_))
                      refine bodyPost_ret (results_row_tmp rfl _ _ (w.heap.size + 1) _ _ _ _ rfl (setRow_heap _ _ _ _ _ _ S4.out.b1) Tryd.underlying68 rfl (by rw [HZ5.out]; kernel_rfl)) rfl ?_
                      exact .inr ⟨HGF.out, _, rfl, HZ5.out, H5.out, below_setRow S4.out.bel (by omega) _⟩
                    | some ch =>
                      have hck := child_kind (n := n) (k := 16) (top := lvlN n) (.inr ⟨HNM.out, rfl, rfl⟩) hs9 HO.out.symm
                      have hmay : MayRead f ch := by
                        have h1 := HMR.out.1
                        have h2 := (metas_find n HNM.out).2.1
                        have h3 : lvlN n ≤ f := by
                          rcases HMR.out.2 with ⟨q, _, _⟩ | ⟨_, q⟩
                          · omega
                          · omega
                        refine ⟨by omega, ?_⟩
                        rcases hck.2 with ⟨q1, q2⟩ | ⟨q1, q2⟩
                        · exact .inl ⟨q1, q2, by omega⟩
                        · exact .inr ⟨q1, by omega⟩
                      have HMAY := Lib.hid hmay
                      have HES : Hid (eS (rdZ Z) f n (wordsN bs) s = eN (rdZ Z) f ch p) := Lib.hid (by unfold eS; rw [HGD.out, if_neg HE.out, ← HO.out])
                      have HOS : Hid (okS (rdZ Z) f n (wordsN bs) s = gN (rdZ Z) f ch p) := Lib.hid (by unfold okS; rw [HGD.out, decide_eq_false HE.out, ← HO.out]; rfl)
                      have hfit : Fits (L ++ negE (rowE (rdZ Z) f n (wordsN bs) s)) f := by
                        have h1 := HL.out
                        unfold Fits at h1 ⊢
                        rw [show capE (f + 1) = 16 * capE f + 1 from rfl] at h1
                        rw [List.length_append]
                        have h2 := rowE_cap (rdZ Z) f n (wordsN bs) s
                        have h3 : s * capE f ≤ 15 * capE f := Nat.mul_le_mul_right _ (by omega)
                        omega
                      have HFIT := Lib.hid hfit
                      clear hck hmay hfit
                      go_wp2_with fail
                      refine HC.out.mono ?_
                      rintro e w4 ⟨rfl, hb4⟩
                      obtain ⟨cs5, v5, h1, h2, h3⟩ := HSQ.out.st
                      have S4 := Lib.hid (h1.below hb4)
                      have X4 := Lib.hid ((hb4.block _ (blk_lt HSQ.out.xb)).trans HSQ.out.xb)
                      have OK4 := Lib.hid HSQ.out.ok
                      have HI := Lib.hid (IH.out ch p cs5 _ v5 _ w4 HMAY.out HFIT.out h2 (h3.below hb4) (HZA.out.below S4.out.bel))
                      have HZ5 := Lib.hid h2.size
                      clear HC hb4 h1 h2 h3 HSQ k0 k1 k2 k3 k4 k5 HMAY HFIT
                      go_wp2_with (refine wpList_load_row rfl 68 _ rfl _ rfl 68 _ _ _ S4.out.b0 Tryd.underlying68 rfl (by rw [HZ5.out]; kernel_rfl) ?_)
                      refine HI.out.mono ?_
                      rintro e w5 (⟨hg, cs6, v6, rfl, hm6, hp6, hb6⟩ | ⟨hg, cs6, rfl, hz6, h16, hb6⟩)
                      · have S5 := Lib.hid (S4.out.below hb6)
                        have X5 := Lib.hid ((hb6.block _ (blk_lt X4.out)).trans X4.out)
                        have S6 := Lib.hid (S5.out.setRow cs6)
                        have HZ6 := Lib.hid hm6.size
                        have H6 := Lib.hid (hm6.all1 hp6)
                        have R6 : Hid (RowSt w D L (rdZ Z) f n (wordsN bs) xb #[.int .i64 xn, .int .i64 (lvlN n), .int .i64 (fstN n), .int .i64 xr, .slice ma ml mc, .slice sa sl sc] (s + 1) (w5.setRow w.heap.size cs6)) := Lib.hid (by
                          refine ⟨⟨cs6, v6, S6.out, ?_, ?_⟩, (setRow_other _ _ _ _ (by have := HX2.out; omega)).trans X5.out, by rw [HOK.out, HOS.out, hg, OK4.out]; rfl⟩
                          · rw [HRW.out, HES.out, putE_append]; exact hm6
                          · rw [HRW.out, HES.out, negE_append, ← List.append_assoc]
                            exact hp6.setRow S5.out.b0 cs6)
                        clear hm6 hp6 hb6 HI S4 X4 X5 HOK HRW HES HOS
                        go_wp2_with (refine wpList_store_row rfl 68 _ _ rfl w.heap.size _ rfl rfl 68 _ S5.out.b0 (by rw [HZ6.out]; kernel_rfl) (by rw [HZ5.out, HZ6.out]) (all_one H6.out) ?_)
                        go_roundw
                        case rel => exact ⟨s + 1, by omega, by go_num, by rw [HAN.out], R6.out⟩
                        case measure => simp only [RowKit.intOf]; omega
                      · have S5 := Lib.hid (S4.out.below hb6)
                        have S6 := Lib.hid (S5.out.setRow cs6)
                        have HZ6 := Lib.hid hz6
                        have H6 := Lib.hid h16
                        have HGF : Hid (gN (rdZ Z) (f + 1) n a = false) := Lib.hid (by
                          rw [HGL.out, rowOk_bad (rdZ Z) (j := s) (by omega) (by rw [HOS.out, hg]), Bool.and_false])
                        clear hz6 h16 hb6 HI S4 X4 HOK HRW HES HOS hg
                        go_wp2_with (first | (refine wpList_store_row rfl 68 _ _ rfl w.heap.size _ rfl rfl 68 _ S5.out.b0 (by rw [HZ6.out]; kernel_rfl) (by rw [HZ5.out, HZ6.out]) (all_one H6.out) ?_) | (refine wpList_load_row rfl 68 _ rfl _ rfl 68 _ _ _ S6.out.b0 Tryd.underlying68 rfl (by rw [HZ6.out]; kernel_rfl) ?_) | (refine wpList_store_row rfl 68 _ _ rfl (w.heap.size + 1) _ rfl rfl 68 _ S6.out.b1 (by rw [HZ6.out]; kernel_rfl) (by rw [HZ1.out, HZ6.out]) (all_one H6.out) ?_))
                        refine bodyPost_ret (results_row_tmp rfl _ _ (w.heap.size + 1) _ _ _ _ rfl (setRow_heap _ _ _ _ _ _ S6.out.b1) Tryd.underlying68 rfl (by rw [HZ6.out]; kernel_rfl)) rfl ?_
                        exact .inr ⟨HGF.out, _, rfl, HZ6.out, H6.out, below_setRow S6.out.bel (by omega) _⟩
                · obtain rfl : s = 16 := by omega
                  obtain ⟨cs5, v5, h1, h2, h3⟩ := HS.out.st
                  have hgn : gN (rdZ Z) (f + 1) n a = anyP (wordsN bs) 16 := by rw [HGL.out, HS.out.ok, Bool.and_true]
                  have hE : putE D (eN (rdZ Z) (f + 1) n a) = putE D (rowE (rdZ Z) f n (wordsN bs) 16) := by rw [HEL.out, putE_append, putE_neg _ hneg]
                  have hN : L ++ negE (eN (rdZ Z) (f + 1) n a) = (L ++ negE (rowE (rdZ Z) f n (wordsN bs) 16)) ++ [(n, a)] := by rw [HEL.out, negE_append, negE_neg hneg, List.append_assoc]
                  have hfit : (L ++ negE (rowE (rdZ Z) f n (wordsN bs) 16)).length ≤ 1000000 := by
                    have q1 := HL.out
                    unfold Fits at q1
                    rw [show capE (f + 1) = 16 * capE f + 1 from rfl] at q1
                    rw [List.length_append]
                    have q2 := rowE_cap (rdZ Z) f n (wordsN bs) 16
                    omega
                  have HGN := Lib.hid hgn; have HE := Lib.hid hE; have HN := Lib.hid hN; have HFI := Lib.hid hfit
                  rw [← hE] at h2
                  generalize L ++ negE (rowE (rdZ Z) f n (wordsN bs) 16) = Lx at *
                  obtain ⟨va, vc, rfl⟩ := h3.shape
                  have S5 := Lib.hid h1; have HM5 := Lib.hid h2; have HP5 := Lib.hid h3
                  have HO0 : Hid ((wr.alloc (.cells #[] 65)).ownsRow wr.heap.size 65 2 (.slice (some ⟨wr.heap.size, 0, none⟩) 0 0) 0 []) := Lib.hid (own_block (xs := []) (n := 0) (k := 2) (blk_new rfl) rfl rfl (Nat.le_refl _) (by decide))
                  have SA := Lib.hid (h1.below ((Below.refl _ wr).alloc (Nat.le_refl _) (.cells #[] 65)))
                  have c600 := cell_blk_some SA.out.b0 h2.metas
                  have SRC := Lib.hid (h3.below ((Below.refl _ wr).alloc (Nat.le_refl _) (.cells #[] 65))).src
                  have hwz : wr.heap.size ≤ (wr.alloc (.cells #[] 65)).heap.size := by simp
                  clear h1 h2 h3 HS hgn hE hN hfit
                  go_wp2_with (refine wpList_append_g (by rfl) (.tmp 113) (.tmp 115) (by rfl) elRP (by rfl) HO0.out (by rfl) SRC.out (by unfold maxLen; have := HFI.out; omega) (by have := HFI.out; omega) hwz ?_)
                  intro v6 w6 ho6 hf6 hv6
                  obtain ⟨ga, gc, rfl⟩ := own_shape ho6
                  have hb6 : Below wr.heap.size wr w6 := ((Below.refl _ wr).alloc (Nat.le_refl _) (.cells #[] 65)).trans (hf6.toBelow (B := wr.heap.size) hwz fun x hx => (HO0.out.lt _ hx).1)
                  have hb7 : Below wr.heap.size wr (w6.alloc (.cells #[.int .i64 n, .int .i64 a] 65)) := hb6.alloc hb6.size _
                  have HO7 : Hid ((w6.alloc (.cells #[.int .i64 n, .int .i64 a] 65)).ownsRow wr.heap.size 65 2 (.slice ga Lx.length gc) Lx.length (flat2 Lx)) := Lib.hid (own_frame ho6 (S := fun _ => False) ((Fr.refl _ w6).alloc _) fun _ _ => id)
                  have HB7 := Lib.hid hb7
                  have hwz7 := hb7.size
                  have O6 := Lib.hid ho6
                  clear ho6 hf6 hv6 hb6 hb7 hwz HO0 SA SRC c600
                  go_wp2_with (refine wpList_append_g (by rfl) (.tmp 116) (.tmp 120) (by rfl) elRP (by rfl) HO7.out (by rfl) (srcP w6 n a) (by unfold maxLen; have := HFI.out; omega) (by have := HFI.out; omega) hwz7 ?_)
                  intro v8 w8 ho8 hf8 hv8
                  have hown := OwnR.snoc (p := (n, a)) ho8 rfl
                  obtain ⟨ha8, hc8, rfl⟩ := own_shape ho8
                  have hb8 : Below wr.heap.size wr w8 := HB7.out.trans (hf8.toBelow (B := wr.heap.size) hwz7 fun x hx => (HO7.out.lt _ hx).1)
                  have S8 := S5.out.below hb8
                  have HP8 := Lib.hid hown.row
                  have c8 := cell_blk_some S8.b0 HM5.out.metas
                  have f8 := free_blk (i := 600) S8.b0
                  have S9 : Hid (RdSt w (cs5.setIfInBounds 600 (.slice ha8 (Lx.length + 1) hc8)) (w8.setCell ⟨w.heap.size, 600, none⟩ (.slice ha8 (Lx.length + 1) hc8))) :=
                    Lib.hid ⟨blk_set (i := 600) S8.b0 _, blk_set_other S8.b1 (fun e => by have : w.heap.size + 1 = w.heap.size := e; omega) _, S8.bel.setCell (Nat.le_refl _) _⟩
                  have HM9 := Lib.hid (HM5.out.setM (.slice ha8 (Lx.length + 1) hc8))
                  have HP9 := Lib.hid (HP8.out.setCell (i := 600) S8.b0 (.slice ha8 (Lx.length + 1) hc8))
                  have HZ9 := Lib.hid HM9.out.size
                  have H9 := Lib.hid (HM9.out.all1 HP9.out)
                  clear hown ho8 hf8 hv8 hb8 S8 HP8 HO7 O6 S5 HM5 HP5 HB7 hwz7
                  go_wp2_with (first | (refine wpList_load_row rfl 68 _ rfl _ rfl 68 _ _ _ S9.out.b0 Tryd.underlying68 rfl (by rw [HZ9.out]; kernel_rfl) ?_) | (refine wpList_store_row rfl 68 _ _ rfl (w.heap.size + 1) _ rfl rfl 68 _ S9.out.b1 (by rw [HZ9.out]; kernel_rfl) (by rw [HZ1.out, HZ9.out]) (all_one H9.out) ?_))
                  refine bodyPost_ret (results_row_tmp rfl _ _ (w.heap.size + 1) _ _ _ _ rfl (setRow_heap _ _ _ _ _ _ S9.out.b1) Tryd.underlying68 rfl (by rw [HZ9.out]; kernel_rfl)) rfl ?_
                  have hbe := below_setRow S9.out.bel (g := w.heap.size + 1) (by omega) (cs5.setIfInBounds 600 (.slice ha8 (Lx.length + 1) hc8))
                  have hpr := HP9.out.setRow S9.out.b1 (cs5.setIfInBounds 600 (.slice ha8 (Lx.length + 1) hc8))
                  cases hq : anyP (wordsN bs) 16 with
                  | true => exact .inl ⟨by rw [HGN.out, hq], _, _, rfl, HM9.out, by rw [HN.out]; exact hpr, hbe⟩
                  | false => exact .inr ⟨by rw [HGN.out, hq], _, rfl, HZ9.out, H9.out, hbe⟩
            · have hgf : gN (rdZ Z) (f + 1) n a = false := by
                rw [HGM.out]
                cases hq : rdZ Z a with
                | none => rfl
                | some x =>
                  rw [hq] at hbs
                  have : x.length ≠ 64 := by rw [hbs] at h64; exact h64
                  show (decide (x.length = 64) && _) = false
                  rw [decide_eq_false this]; rfl
              have HG := Lib.hid hgf
              have h64' : ((bs.length : Int) != 64) = true := by simp; omega
              rw [← hln] at h64'
              clear hgf hbs
              generalize strOfNums bs = st at *
              go_wp2_with (first | (refine wpList_load_row rfl 68 _ rfl _ rfl 68 _ _ _ HS.out.b0 Tryd.underlying68 rfl (by rw [HSZ.out]; kernel_rfl) ?_) | (refine wpList_store_row rfl 68 _ _ rfl (w.heap.size + 1) _ rfl rfl 68 _ HS.out.b1 (by rw [HSZ.out]; kernel_rfl) (by rw [HZ1.out, HSZ.out]) (all_one H1.out) ?_))
              refine bodyPost_ret (results_row_tmp rfl _ _ (w.heap.size + 1) _ _ _ _ rfl (setRow_heap _ _ _ _ _ _ HS.out.b1) Tryd.underlying68 rfl (by rw [HSZ.out]; kernel_rfl)) rfl ?_
              exact .inr ⟨HG.out, _, rfl, HSZ.out, H1.out, below_setRow HS.out.bel (by omega) _⟩
    · rw [gN_great _ (by omega)]
      exact (rread_great hm.size (hm.all1 hv) (by omega)).mono fun e w' h => .inr ⟨rfl, h⟩
end Go.Proofs.YtklamgijikcnaaaDoor
