/- Walk of container/heap.down over the queue. -/
import Derived.Test.YtjldocpjoiibjaaC3
namespace Go.Proofs.Ytjldocpjoiibjaa
open Go.RowKit

/-- Which of the two below k is the lesser. -/
def kidQ (Q : List Bf) (k n : Nat) : Nat := if (decide (2 * k + 2 < n) && lessQ Q (2 * k + 2) (2 * k + 1)) = true then 2 * k + 2 else 2 * k + 1
def downQ : Nat → List Bf → Nat → Nat → List Bf × Nat
  | 0, Q, k, _ => (Q, k)
  | f + 1, Q, k, n => if n ≤ 2 * k + 1 then (Q, k) else if lessQ Q (kidQ Q k n) k = true then downQ f (swp Q k (kidQ Q k n)) (kidQ Q k n) n else (Q, k)

set_option maxHeartbeats 8000000 in
set_option maxRecDepth 100000 in
theorem down_any {w : World} {cb : Nat} {Cc : Array Value} {Q : List Bf} {qb cap : Nat} (h : HAt w cb Cc Q qb cap) {i n : Nat} (hi : i ≤ 1000000) (hn : n ≤ Q.length) (hl : Q.length ≤ 1000000) :
    Calls Try.prog 55 #[hv cb, .int .i64 i, .int .i64 n] w fun e w' => e = .returned (.bool (decide (i < (downQ n Q i n).2))) ∧ HAt w' cb Cc (downQ n Q i n).1 qb cap ∧ (downQ n Q i n).1.Perm Q ∧ Fr (Qs Q qb) w w' := by
  unfold hv
  obtain ⟨R, hR⟩ : ∃ R, R = downQ n Q i n := ⟨_, rfl⟩
  rw [← hR]
  have HR := Lib.hid hR; clear hR
  have H := Lib.hid h; clear h
  go_enter Try.func55, Try.ntmps55
  go_wp2_with fail
  go_loopg [7] n (fun f t wr => ∃ (k : Nat) (Q' : List Bf), k ≤ 2000002 ∧ t = .int .i64 k ∧ n ≤ f + k ∧ Q'.Perm Q ∧ HAt wr cb Cc Q' qb cap ∧ downQ f Q' k n = R ∧ Fr (Qs Q qb) w wr)
  case atStart => exact ⟨i, Q, by omega, rfl, by omega, .refl _, H.out, HR.out.symm, Fr.refl _ _⟩
  case round =>
    obtain ⟨k, Q', hk, rfl, hkf, hp, hh, hu, hfr⟩ := hrel
    have hlen := hp.length_eq
    obtain ⟨j1, hj1⟩ : ∃ j1, j1 = 2 * k + 1 := ⟨_, rfl⟩
    obtain ⟨j2, hj2⟩ : ∃ j2, j2 = 2 * k + 2 := ⟨_, rfl⟩
    have e1 : IntKind.i64.wrap (2 * (k : Int)) = 2 * (k : Int) := IntWalk.i64_in _ (by omega)
    have e2' : 2 * (k : Int) + 1 = (j1 : Int) := by omega
    have e2 : IntKind.i64.wrap (2 * (k : Int) + 1) = (j1 : Int) := by rw [e2']; exact IntWalk.i64_in _ (by omega)
    have e3' : (j1 : Int) + 1 = (j2 : Int) := by omega
    have e3 : IntKind.i64.wrap ((j1 : Int) + 1) = (j2 : Int) := by rw [e3']; exact IntWalk.i64_in _ (by omega)
    have e4 : decide ((j1 : Int) < 0) = false := dec_false (by omega)
    by_cases hbr : n ≤ j1
    · have hq0 : R = (Q', k) := by
        rw [← hu]
        cases gk with
        | zero => rfl
        | succ f => rw [downQ, if_pos (by omega)]
      subst hq0
      have q1 : decide ((n : Int) ≤ (j1 : Int)) = true := dec_true (by omega)
      have HP := Lib.hid hp; have HH := Lib.hid hh; have HFR := Lib.hid hfr
      clear hj1 hj2 hu hp hh hfr
      go_wp2_with fail
      go_ret
      refine ⟨?_, HH.out, HP.out, HFR.out⟩
      first | rfl | (congr 2; simp)
    · obtain ⟨f, rfl⟩ : ∃ f, gk = f + 1 := ⟨gk - 1, by omega⟩
      rw [downQ, if_neg (by omega)] at hu
      obtain ⟨a, ha⟩ : ∃ a, Q'[k]? = some a := ⟨_, List.getElem?_eq_getElem (by omega)⟩
      obtain ⟨b, hb⟩ : ∃ b, Q'[j1]? = some b := ⟨_, List.getElem?_eq_getElem (by omega)⟩
      have hcell := cell_blk_some hh.blk hh.ptr
      have q1 : decide ((n : Int) ≤ (j1 : Int)) = false := dec_false (by omega)
      have hjf : n ≤ f + j1 ∧ n ≤ f + j2 := by omega
      have hjb : j1 ≤ 2000002 ∧ j2 < n → j2 ≤ 2000002 := by omega
      have hj1b : j1 ≤ 2000002 := by omega
      have hkj : k ≠ j1 ∧ k ≠ j2 := by omega
      have hkl : k < Q.length := by omega
      have hj1l : j1 < Q.length := by omega
      have HU := Lib.hid hu; have HH := Lib.hid hh; have HP := Lib.hid hp; have HFR := Lib.hid hfr; have HAA := Lib.hid ha; have HBB := Lib.hid hb
      have HLEN := Lib.hid hlen; have HJ1 := Lib.hid hj1; have HJ2 := Lib.hid hj2; have HJF := Lib.hid hjf; have HKJ := Lib.hid hkj
      have cl := cf_less
      have cs := cf_swap
      have ml := m_less hcell
      clear hu hh hp hfr ha hb hlen hj1 hj2 hjf hkj hjb
      -- the lesser one below
      have hcase : (kidQ Q' k n = j1 ∧ ¬ j2 < n) ∨ (j2 < n ∧ ∃ c, Q'[j2]? = some c ∧ ((kidQ Q' k n = j2 ∧ decide (c.stamp < b.stamp) = true) ∨ (kidQ Q' k n = j1 ∧ decide (c.stamp < b.stamp) = false))) := by
        unfold kidQ
        rw [← HJ1.out, ← HJ2.out]
        by_cases h2 : j2 < n
        · obtain ⟨c, hc⟩ : ∃ c, Q'[j2]? = some c := ⟨_, List.getElem?_eq_getElem (by rw [HLEN.out]; omega)⟩
          have hl : lessQ Q' j2 j1 = decide (c.stamp < b.stamp) := by unfold lessQ; rw [getD_of hc, getD_of HBB.out]
          refine .inr ⟨h2, c, hc, ?_⟩
          rw [hl, dec_true h2, Bool.true_and]
          cases hd : decide (c.stamp < b.stamp)
          · exact .inr ⟨by simp, rfl⟩
          · exact .inl ⟨by simp, rfl⟩
        · exact .inl ⟨by rw [dec_false h2, Bool.false_and, if_neg (by simp)], h2⟩
      rcases hcase with ⟨hkid, h2⟩ | ⟨h2, c, hc, ⟨hkid, hd⟩ | ⟨hkid, hd⟩⟩
      focus
        have q2 : decide ((j2 : Int) < (n : Int)) = false := dec_false (by omega)
        have hu := HU.out
        rw [hkid] at hu
        have HU1 := Lib.hid hu
        have HX := HBB
        have hjx := HJF.out.1
        have hjk := HKJ.out.1
        have hjl : j1 < Q.length := hj1l
        have hjb2 := hj1b
        have HLS := Lib.hid (qLess_any HH.out.q HBB.out HAA.out)
        have hlq : lessQ Q' j1 k = decide (b.stamp < a.stamp) := by unfold lessQ; rw [getD_of HBB.out, getD_of HAA.out]
        have HLQ := Lib.hid hlq
        have HHz := HH; have HFRz := HFR
        clear hu HU hkid hlq
        generalize b = x at *
        go_wp2_with fail
      rotate_left
      focus
        have q2 : decide ((j2 : Int) < (n : Int)) = true := dec_true (by omega)
        have HCC := Lib.hid hc
        have HL1 := Lib.hid (qLess_any HH.out.q hc HBB.out)
        rw [hd] at HL1
        have hu := HU.out
        rw [hkid] at hu
        have HU1 := Lib.hid hu
        have hjx := HJF.out.2
        have hjk := HKJ.out.2
        have hjl : j2 < Q.length := by omega
        have hjb2 : j2 ≤ 2000002 := by omega
        have hlq : lessQ Q' j2 k = decide (c.stamp < a.stamp) := by unfold lessQ; rw [getD_of hc, getD_of HAA.out]
        have HLQ := Lib.hid hlq
        clear hu HU hkid hlq hc hd
        go_wp2_with fail
        refine HL1.out.mono ?_
        rintro e wz ⟨rfl, nn, hw⟩
        have hcz : wz.cell? ⟨cb, 2, none⟩ = some (.slice (some ⟨qb, 0, none⟩) Q'.length cap) := by rw [hw]; exact hcell
        have hqz : QAt wz Q' qb cap := by rw [hw]; exact ⟨HH.out.q.row, HH.out.q.fits, HH.out.q.buf, HH.out.q.nodup⟩
        have hfz : Fr (Qs Q' qb) wr wz := by rw [hw]; exact (Fr.refl _ wr).drewN nn
        have HHz := Lib.hid (HH.out.step hqz hfz (.refl _))
        have HFRz := Lib.hid (HFR.out.trans (hfz.mono fun x _ hx => (Qs_perm HP.out).1 hx))
        have HLS := Lib.hid (qLess_any hqz HCC.out HAA.out)
        have HX := HCC
        clear hw hcell ml hqz hfz HH HFR HL1 HBB HCC
        have hcell := hcz
        have ml := m_less hcell
        clear hcz
        generalize c = x at *
        go_wp2_with fail
      rotate_left
      focus
        have q2 : decide ((j2 : Int) < (n : Int)) = true := dec_true (by omega)
        have HL1 := Lib.hid (qLess_any HH.out.q hc HBB.out)
        rw [hd] at HL1
        have hu := HU.out
        rw [hkid] at hu
        have HU1 := Lib.hid hu
        have hjx := HJF.out.1
        have hjk := HKJ.out.1
        have hjl : j1 < Q.length := hj1l
        have hjb2 := hj1b
        have hlq : lessQ Q' j1 k = decide (b.stamp < a.stamp) := by unfold lessQ; rw [getD_of HBB.out, getD_of HAA.out]
        have HLQ := Lib.hid hlq
        clear hu HU hkid hlq hc hd
        go_wp2_with fail
        refine HL1.out.mono ?_
        rintro e wz ⟨rfl, nn, hw⟩
        have hcz : wz.cell? ⟨cb, 2, none⟩ = some (.slice (some ⟨qb, 0, none⟩) Q'.length cap) := by rw [hw]; exact hcell
        have hqz : QAt wz Q' qb cap := by rw [hw]; exact ⟨HH.out.q.row, HH.out.q.fits, HH.out.q.buf, HH.out.q.nodup⟩
        have hfz : Fr (Qs Q' qb) wr wz := by rw [hw]; exact (Fr.refl _ wr).drewN nn
        have HHz := Lib.hid (HH.out.step hqz hfz (.refl _))
        have HFRz := Lib.hid (HFR.out.trans (hfz.mono fun x _ hx => (Qs_perm HP.out).1 hx))
        have HLS := Lib.hid (qLess_any hqz HBB.out HAA.out)
        have HX := HBB
        clear hw hcell ml hqz hfz HH HFR HL1 HBB
        have hcell := hcz
        have ml := m_less hcell
        clear hcz
        generalize b = x at *
        go_wp2_with fail
      all_goals
        refine HLS.out.mono ?_
        rintro e w1 ⟨rfl, nn, hw⟩
        have hc1 : w1.cell? ⟨cb, 2, none⟩ = some (.slice (some ⟨qb, 0, none⟩) Q'.length cap) := by rw [hw]; exact hcell
        have hq1 : QAt w1 Q' qb cap := by rw [hw]; exact ⟨HHz.out.q.row, HHz.out.q.fits, HHz.out.q.buf, HHz.out.q.nodup⟩
        have hf1 := Fr.of_drewN (S := Qs Q' qb) hw
        have HH1 := Lib.hid (HHz.out.step hq1 hf1 (.refl _))
        have HFR1 := Lib.hid (HFRz.out.trans (hf1.mono fun x _ hx => (Qs_perm HP.out).1 hx))
        clear hw hcell ml hf1 HHz HFRz HLS
        cases hls : decide (x.stamp < a.stamp)
        · have hu := HU1.out
          rw [HLQ.out, hls, if_neg (by simp)] at hu
          have hq0 : R = (Q', k) := hu.symm
          subst hq0
          clear hu hls
          go_wp2_with fail
          go_ret
          refine ⟨?_, HH1.out, HP.out, HFR1.out⟩
          first | rfl | (congr 2; simp)
        · have hu := HU1.out
          rw [HLQ.out, hls, if_pos rfl] at hu
          have HU2 := Lib.hid hu
          have ms := m_swap hc1
          have HSW := Lib.hid (qSwap_any hq1 HAA.out HX.out hjk)
          have HLX := Lib.hid (swp_perm (Q := Q') (i := k) (by rw [HLEN.out]; exact hkl) (show _ < Q'.length by rw [HLEN.out]; exact hjl))
          clear hu hls hq1
          go_wp2_with fail
          refine HSW.out.mono ?_
          rintro e w2 ⟨rfl, hq2, hf2⟩
          have HH2 := Lib.hid (HH1.out.step hq2 hf2 HLX.out)
          have HFR2 := Lib.hid (HFR1.out.trans (hf2.mono fun x _ hx => (Qs_perm HP.out).1 hx))
          have HP2 := Lib.hid (HLX.out.trans HP.out)
          clear hq2 hf2 hc1 ms
          go_wp2_with fail
          go_roundg f
          case rel => exact ⟨_, _, hjb2, rfl, hjx, HP2.out, HH2.out, HU2.out, HFR2.out⟩
          all_goals omega
end Go.Proofs.Ytjldocpjoiibjaa
