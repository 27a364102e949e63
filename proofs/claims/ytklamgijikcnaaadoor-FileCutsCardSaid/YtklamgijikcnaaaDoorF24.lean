/- Walk of the statement FileCuts: it returns true. -/
import Derived.Test.YtklamgijikcnaaaDoorF23
namespace Go.Proofs.YtklamgijikcnaaaDoor
open Go.RowKit

def CSt (W : World) (fb wb i : Nat) (wr : World) : Prop := ∃ d m F, One W wr fb d m F ∧ MapIs (Value.int .i64) wr wb (dataF d) ∧ ¬ F wb ∧ W.heap.size ≤ wb ∧ i ≤ 40
set_option maxHeartbeats 8000000 in
set_option maxRecDepth 100000 in
theorem lawCuts_any (v : Value) (xs : List Int) (from_ : Int) (W : World) (S : SpanAt W) (hv : ArgI W v xs) :
    Calls Tryd.prog 6 #[v, .int .i64 from_] W fun e w' => e = .returned (.bool true) ∧ Below W.heap.size W w' := by
  obtain ⟨av, cv, rfl, hxs⟩ := hv
  have HX := Lib.hid hxs
  obtain ⟨k, hk, hkw⟩ := rest_of from_ 601 (by decide) (by decide)
  have HK := Lib.hid hkw
  have HN := Lib.hid (onew_any S)
  clear hxs hkw S
  have mm := fun w => run_makeMap (P := Tryd.prog) 27 w
  go_enter Tryd.func6, Tryd.ntmps6
  go_wp2_with fail
  refine HN.out.mono ?_
  rintro e w1 ⟨rfl, F1, T1⟩
  have HA := Lib.hid (awake_any T1.f.span)
  have T1' := Lib.hid T1
  clear T1
  go_wp2_with fail
  refine HA.out.mono ?_
  rintro e w2 ⟨rfl, hb2⟩
  have T2 := T1'.out.below hb2
  have hst : CSt W (W.heap.size + 2) w2.heap.size 0 (w2.alloc (.map #[] 0)) := ⟨_, _, _, T2.alloc _, by rw [dataF_zero]; exact MapIs.new _ _ _ (blk_new rfl), fun h => by have := T2.f.lt _ h; omega, T2.bel.size, by omega⟩
  have K0 := Lib.hid hst
  clear hst T2 hb2 HA T1' HN
  go_wp2_with fail
  rw [show ((601 : Nat) : Int) = 601 from rfl] at HK
  rw [HK.out]
  generalize w2.alloc (.map #[] 0) = w3 at K0 ⊢
  generalize w2.heap.size = wb at K0 ⊢
  generalize W.heap.size + 2 = fb at K0 ⊢
  go_loopw [7] (fun idx wr => ∃ i : Nat, i ≤ xs.length ∧ idx = .int .i64 i ∧ CSt W fb wb i wr) (fun idx _ => xs.length - (RowKit.intOf idx).toNat)
  case atStart => exact ⟨0, by omega, rfl, K0.out⟩
  case round =>
    obtain ⟨i, hi, rfl, hst⟩ := hrel
    clear K0
    have HS := Lib.hid hst
    obtain ⟨d, m, F, T, hM, hFw, hwl, hi40⟩ := hst
    have T' := Lib.hid T; have HM := Lib.hid hM
    clear T hM
    by_cases hgo : i < xs.length ∧ i < 40
    · obtain ⟨hg1, hg2⟩ := hgo
      obtain ⟨g, o, rfl, hg, hcell⟩ := HX.out (by omega)
      have hc := (T'.out.bel.cell (p := ⟨g, o + i, none⟩) hg).trans (hcell i hg1)
      obtain ⟨x, hxe⟩ : ∃ x, x = xs.getD i 0 := ⟨_, rfl⟩
      rw [← hxe] at hc
      obtain ⟨n, hn, hnw⟩ := rest_of x 600 (by decide) (by decide)
      have HNW := Lib.hid hnw
      rw [show ((600 : Nat) : Int) = 600 from rfl] at HNW
      have hsr := Lib.hid (oset_data T'.out (n := n) (a := (i : Int) + 1) ⟨by omega, by omega⟩ ⟨by omega, by omega⟩)
      have b0 : (0 : Int) ≤ (i : Int) := by omega
      have b1 : (i : Int) < (xs.length : Int) := by omega
      clear hcell hnw HS hxe
      go_wp2_with fail
      rw [HNW.out]
      refine hsr.out.mono ?_
      rintro e w4 ⟨v4, F4, rfl, ho4, T4, ha4⟩
      have hd4 := (setS_ok T'.out.inv (n := n) (a := (i : Int) + 1) ⟨by omega, by omega⟩).1
      rw [hd4] at T4
      have hM4 := HM.out.fr ha4.fr hFw
      have hF4 := ha4.off HM.out.lt hFw
      obtain ⟨w5, hup, hM5, hf5⟩ := hM4.put klI Tryd.underlying27 (n : Int) (.int .i64 ((i : Int) + 1))
      rw [← dataF_setD (by omega)] at hM5
      have T5 := T4.fr hf5 (fun q hq e => hF4 (by rw [← show q = wb from e]; exact hq)) (fun q hq => by rw [show q = wb from hq]; exact hwl)
      have T5' := Lib.hid T5; have M5 := Lib.hid hM5
      clear ho4 T4 ha4 hM4 hM5 hf5 T5 hd4 hsr hc
      go_wp2_with fail
      go_roundw
      case rel => exact ⟨i + 1, by omega, by go_num, _, _, F4, T5'.out, M5.out, hF4, hwl, by omega⟩
      case measure => simp only [RowKit.intOf]; omega
    · have hCUT := Lib.hid (ocut_any T'.out (from_ := (k : Int)) ⟨by omega, by omega⟩)
      have hend : xs.length ≤ i ∨ (i < xs.length ∧ 40 ≤ i) := by omega
      clear hgo
      rcases hend with hend | ⟨hend, hend2⟩
      all_goals
        go_wp2_with fail
        refine hCUT.out.mono ?_
        rintro e w4 ⟨v4, F4, d', m', rfl, hd', hsub, _, ho4, T4, ha4⟩
        have hM4 := HM.out.fr ha4.fr hFw
        have T4' := Lib.hid T4; have M4 := Lib.hid hM4; have HD := Lib.hid hd'
        clear hd' hsub ho4 T4 ha4 hM4 hCUT T' HM HS
        go_wp2_with fail
        go_loop [11] (fun idx => ∃ n : Nat, n ≤ 600 ∧ idx = .int .i64 n) (fun idx => 600 - (RowKit.intOf idx).toNat)
        case atStart => exact ⟨0, by omega, rfl⟩
        case round =>
          obtain ⟨n, hn, rfl⟩ := hrel
          by_cases hn6 : n < 600
          · have lk := dataF_look M4.out (n : Int)
            have hG := get_any T4'.out.f T4'.out.inv (n : Int)
            have hH := has_any T4'.out.f (n : Int)
            have hd := HD.out (n : Int)
            have hb : hasB d' m' (n : Int) = decide (d' (n : Int) ≠ 0) := by unfold hasB; rw [T4'.out.inv.data (by omega)]; simp
            rw [hb] at hH
            rw [adr_data (by omega)] at hG
            by_cases hkn : k ≤ n
            · rw [if_pos (by omega)] at hd
              rw [hd] at hG hH
              have HG := Lib.hid hG; have HH := Lib.hid hH
              clear hG hH hd hb
              go_wp2_with fail
              refine HG.out.mono ?_
              rintro e w5 ⟨rfl, rfl⟩
              go_wp2_with fail
              refine HH.out.mono ?_
              rintro e w6 ⟨rfl, rfl⟩
              go_wp2_with fail
              go_round
              case rel => exact ⟨n + 1, by omega, by go_num⟩
              case measure => simp only [RowKit.intOf]; omega
            · rw [if_neg (by omega)] at hd
              rw [hd] at hG hH
              have HG := Lib.hid hG
              clear hG hd hb
              by_cases hz : d (n : Int) = 0
              · have q : (d (n : Int) != 0) = false := by simp [hz]
                rw [dec_false (p := d (n : Int) ≠ 0) (by simp [hz])] at hH
                have HH := Lib.hid hH
                clear hH hz
                go_wp2_with fail
                refine HG.out.mono ?_
                rintro e w5 ⟨rfl, rfl⟩
                go_wp2_with fail
                refine HH.out.mono ?_
                rintro e w6 ⟨rfl, rfl⟩
                go_wp2_with fail
                go_round
                case rel => exact ⟨n + 1, by omega, by go_num⟩
                case measure => simp only [RowKit.intOf]; omega
              · have q : (d (n : Int) != 0) = true := by simp [hz]
                rw [dec_true (p := d (n : Int) ≠ 0) (by simp [hz])] at hH
                have HH := Lib.hid hH
                clear hH hz
                go_wp2_with fail
                refine HG.out.mono ?_
                rintro e w5 ⟨rfl, rfl⟩
                go_wp2_with fail
                refine HH.out.mono ?_
                rintro e w6 ⟨rfl, rfl⟩
                go_wp2_with fail
                go_round
                case rel => exact ⟨n + 1, by omega, by go_num⟩
                case measure => simp only [RowKit.intOf]; omega
          · have hC2 := Lib.hid (ocut_any T4'.out (from_ := (k : Int)) ⟨by omega, by omega⟩)
            go_wp2_with fail
            refine hC2.out.mono ?_
            rintro e w5 ⟨v5, F5, d2, m2, rfl, hd2, hsub, _, ho5, T5, ha5⟩
            have hdd : d2 = d' := by
              funext x
              rw [hd2 x]
              by_cases hx : (k : Int) ≤ x
              · rw [if_pos hx, HD.out x, if_pos hx]
              · rw [if_neg hx]
            subst hdd
            rw [same_adr T4'.out.inv T5.inv hsub, goneL_same] at ho5
            have hs0 : sortI [] = [] := by unfold sortI; rw [List.mergeSort_nil]
            rw [hs0] at ho5
            obtain ⟨xv, cv5, rfl⟩ := ho5.shape
            have T5' := Lib.hid T5
            have hPL := Lib.hid (places_any T5.f T5.inv)
            clear hd2 hsub ho5 T5 ha5 hs0 hC2
            go_wp2_with fail
            refine hPL.out.mono ?_
            rintro e w6 ⟨pv, rfl, hop, hb6⟩
            obtain ⟨xp, cp, rfl⟩ := hop.shape
            have T6 := T5'.out.below hb6
            have hpl : (placesOf d2 m2).length = (keysD d2).length + (placesM m2).length := by unfold placesOf placesD; rw [List.length_append, List.length_map]
            by_cases hk0 : keysD d2 = []
            · have hm0 := metasOf_nil T6.inv hk0
              have hp0 : (placesOf d2 m2).length = 0 := by
                rw [hpl, hk0]
                unfold placesM
                rw [hm0]; rfl
              have hMT := metas_any T6.f
              rw [hm0] at hMT
              have HMT := Lib.hid hMT; have B6 := Lib.hid T6.bel
              rw [hp0]
              clear hop hb6 T6 hpl hMT hm0 hk0 hp0
              go_wp2_with fail
              refine HMT.out.mono ?_
              rintro e w7 ⟨mv, rfl, hr7, hb7⟩
              obtain ⟨x7, c7, rfl⟩ := hr7.shape
              have B7 := Lib.hid (below_call B6.out hb7 (Nat.le_refl _))
              clear hr7 hb7
              go_wp2_with fail
              go_ret
              exact ⟨rfl, B7.out⟩
            · have hp1 : 0 < (placesOf d2 m2).length := by
                have : 0 < (keysD d2).length := by cases hq : keysD d2 with
                  | nil => exact absurd hq hk0
                  | cons _ _ => simp
                omega
              have B6 := Lib.hid T6.bel
              have hp2 : (0 : Int) < ((placesOf d2 m2).length : Int) := by omega
              clear hop hb6 T6 hpl hk0
              go_wp2_with fail
              go_ret
              exact ⟨rfl, B6.out⟩
end Go.Proofs.YtklamgijikcnaaaDoor
