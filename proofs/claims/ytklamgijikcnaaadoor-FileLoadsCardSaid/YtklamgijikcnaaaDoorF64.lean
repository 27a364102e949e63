/- Walk of the law's Tells. -/
import Derived.Test.YtklamgijikcnaaaDoorF63
import Derived.Test.YtklamgijikcnaaaDoorF46
import Derived.Test.YtklamgijikcnaaaDoorF25
import Derived.Test.YtklamgijikcnaaaDoorVals
namespace Go.Proofs.YtklamgijikcnaaaDoor
open Go.RowKit

theorem QRow.below {w w' : World} {v : Value} {L : List (Int × Int)} (h : QRow w v L) (hb : Below w.heap.size w w') : QRow w' v L := by
  obtain ⟨a, c, rfl, hc, hr⟩ := h
  refine ⟨a, c, rfl, hc, fun h0 => ?_⟩
  obtain ⟨g, rfl, hcell⟩ := hr h0
  refine ⟨g, rfl, fun j p hj => ?_⟩
  obtain ⟨h1, h2⟩ := hcell j p hj
  have hl : g < w.heap.size := block_lt_of_cell h1
  exact ⟨(hb.cell (p := ⟨g, j * 2, none⟩) hl).trans h1, (hb.cell (p := ⟨g, j * 2 + 1, none⟩) hl).trans h2⟩
-- VALS
def VT (fb : Nat) (d : Int → Int) (m : MM) (cs : Array Value) (la : Option Addr) (lc : Nat) (γ : Value × Value × Value) (k : Nat) : Value :=
  match k with
  | 0 => .pointer (some ⟨fb, 0, none⟩)
  | 1 => γ.1
  | 2 => .slice la (metasOf m).length lc
  | 3 => .bool true
  | 4 => .bool false
  | 5 => .bool false
  | 6 => .pointer (some ⟨fb, 0, none⟩)
  | 7 => γ.2.1
  | 8 => .agg cs
  | 9 => γ.2.2
  | 10 => .bool true
  | 11 => .bool false
  | 12 => .bool false
  | 13 => .bool false
  | 14 => .pointer (some ⟨fb, 0, none⟩)
  | 15 => .agg (rootW d m).toArray
  | 16 => .agg cs
  | 17 => .agg (rootW d m).toArray
  | 18 => .bool false
  | 19 => .bool false
  | _ => undef
-- END VALS
section
variable {fb : Nat} {d : Int → Int} {m : MM} {cs : Array Value} {la : Option Addr} {lc : Nat} {x x' y y' z z' : Value} {q : Nat}
theorem VT_same1 (h : q ≠ 1) : VT fb d m cs la lc (x', y, z) q = VT fb d m cs la lc (x, y, z) q := by
  unfold VT
  split <;> first | rfl | exact absurd rfl h
theorem VT_same2 (h : q ≠ 7) : VT fb d m cs la lc (x, y', z) q = VT fb d m cs la lc (x, y, z) q := by
  unfold VT
  split <;> first | rfl | exact absurd rfl h
theorem VT_same3 (h : q ≠ 9) : VT fb d m cs la lc (x, y, z') q = VT fb d m cs la lc (x, y, z) q := by
  unfold VT
  split <;> first | rfl | exact absurd rfl h
end
structure CT (w1 : World) (ms : List Int) (PL : List (Int × Int)) (γ : Value × Value × Value) (b : Nat → Bool) (w2 : World) : Prop where
  bel : Below w1.heap.size w1 w2
  r1 : b 1 = true → RowI w2 0 γ.1 ms
  r7 : b 7 = true → QRow w2 γ.2.1 PL
  r9 : b 9 = true → QRow w2 γ.2.2 PL
section
variable {w1 w2 w3 : World} {ms : List Int} {PL : List (Int × Int)} {γ : Value × Value × Value} {b : Nat → Bool} {v : Value}
theorem CT.below (h : CT w1 ms PL γ b w2) (hb : Below w2.heap.size w2 w3) : CT w1 ms PL γ b w3 :=
  ⟨below_call h.bel hb (Nat.le_refl _), fun e => (h.r1 e).below hb, fun e => (h.r7 e).below hb, fun e => (h.r9 e).below hb⟩
theorem updB_ne {b : Nat → Bool} {i k : Nat} (h : k ≠ i) : updB b i k = b k := by unfold updB; rw [if_neg h]
theorem CT.other {i : Nat} (h : CT w1 ms PL γ b w2) (h1 : 1 ≠ i) (h7 : 7 ≠ i) (h9 : 9 ≠ i) : CT w1 ms PL γ (updB b i) w2 :=
  ⟨h.bel, by rw [updB_ne h1]; exact h.r1, by rw [updB_ne h7]; exact h.r7, by rw [updB_ne h9]; exact h.r9⟩
theorem CT.set1 (h : CT w1 ms PL γ b w2) (hr : RowI w2 0 v ms) : CT w1 ms PL (v, γ.2.1, γ.2.2) (updB b 1) w2 :=
  ⟨h.bel, fun _ => hr, by rw [updB_ne (by decide)]; exact h.r7, by rw [updB_ne (by decide)]; exact h.r9⟩
theorem CT.set7 (h : CT w1 ms PL γ b w2) (hr : QRow w2 v PL) : CT w1 ms PL (γ.1, v, γ.2.2) (updB b 7) w2 :=
  ⟨h.bel, by rw [updB_ne (by decide)]; exact h.r1, fun _ => hr, by rw [updB_ne (by decide)]; exact h.r9⟩
theorem CT.set9 (h : CT w1 ms PL γ b w2) (hr : QRow w2 v PL) : CT w1 ms PL (γ.1, γ.2.1, v) (updB b 9) w2 :=
  ⟨h.bel, by rw [updB_ne (by decide)]; exact h.r1, by rw [updB_ne (by decide)]; exact h.r7, fun _ => hr⟩
end
theorem metasOf_length (m : MM) : (metasOf m).length ≤ 42 := by
  have h1 : metasN.length = 42 := by decide +kernel
  rw [← h1]; exact List.length_filter_le _ _
set_option maxHeartbeats 8000000 in
set_option maxRecDepth 100000 in
theorem tells_any {w : World} {fb : Nat} {d : Int → Int} {m : MM} {F : Nat → Prop} {cs : Array Value} {D : List Int} {v : Value} {L : List (Int × Int)} (hF : FAt w fb d m F) (hS : Same d m D L) (hm : IsMap cs D v) (hv : PRow w v L) (hl : L.length ≤ 100000) (hb : ∀ c, 0 ≤ adr d m c ∧ adr d m c < 4096) :
    Calls Tryd.prog 25 #[.pointer (some ⟨fb, 0, none⟩), .agg cs] w fun e w' => e = .returned (.bool true) ∧ Below w.heap.size w w' := by
  have hb0 : Below w.heap.size w (w.alloc (.cells cs 68)) := (Below.refl _ w).alloc (Nat.le_refl _) _
  have OB : Hid ((w.alloc (.cells cs 68)).heap[w.heap.size]? = some (.cells cs 68 (0, 0))) := Lib.hid (blk_new rfl)
  have HSZ := Lib.hid hm.size
  have HM := Lib.hid hm; have HSM := Lib.hid hS; have HLL := Lib.hid hl; have HBD := Lib.hid hb
  have HF0 := Lib.hid (hF.below hb0); have HV0 := Lib.hid (hv.below hb0); have HB0 := Lib.hid hb0
  clear hF hS hm hv hl hb hb0
  go_enter Tryd.func25, Tryd.ntmps25
  go_wp2_with (refine wpList_load_row rfl 68 _ rfl _ rfl 68 _ _ _ OB.out Tryd.underlying68 rfl (by rw [HSZ.out]; kernel_rfl) ?_)
  generalize w.alloc (.cells cs 68) = w0 at *
  refine (rmetas_any (w := w0) HM.out).mono ?_
  rintro e w1 ⟨lv, rfl, hlr, hb1⟩
  rw [HSM.out.metas] at hlr
  obtain ⟨la, lc, rfl⟩ := hlr.shape
  have HF1 := Lib.hid (HF0.out.below hb1); have HV1 := Lib.hid (HV0.out.below hb1); have HB1 := Lib.hid (below_call HB0.out hb1 (Nat.le_refl _))
  have OB1 := Lib.hid ((hb1.block _ (blk_lt OB.out)).trans OB.out)
  have HLR := Lib.hid hlr
  clear hlr hb1 HF0 HV0 HB0 OB
  have hneq : ∀ w, (Op.equalIn 10000 55 (.agg (rootW d m).toArray) (.agg (rootW d m).toArray)).run Tryd.prog w = .ok true w := fun w => eqIn_root 9998 d m w
  have HNEQ := Lib.hid hneq
  have HML := Lib.hid (metasOf_length m)
  clear hneq
  go_wp2_with fail
  refine wp_region_ghost (frame := fun y => ⟨#[.pointer (some ⟨fb, 0, none⟩), .agg cs, undef, .pointer (some ⟨w.heap.size, 0, none⟩), .bool false, .slice la (metasOf m).length lc, undef, undef, undef, undef, undef, undef, undef, undef, undef, undef, undef, .agg cs, .slice la (metasOf m).length lc, y 0, y 1, y 2, y 3, y 4, y 5, y 6, y 7, y 8, y 9, y 10, y 11, y 12, y 13, y 14, y 15, y 16, y 17, y 18, y 19, undef, undef, undef, undef, undef, undef, undef, undef, undef, undef, undef, undef, undef, undef, undef, undef, undef, undef, undef, undef, undef, undef, undef, undef, undef, undef, undef, undef, undef, undef, undef, undef, undef, undef, undef, undef, undef, undef, undef, undef, undef, undef, undef, undef, undef, undef, undef, undef, undef, undef, undef, undef, undef, undef, undef, undef, undef, undef, undef, undef, undef, undef, undef, undef, undef, undef, undef, undef, undef, undef, undef, undef, undef, undef, undef, undef, undef, undef, undef], []⟩)
    (V := VT fb d m cs la lc) (C := CT w1 (metasOf m) (placesOf d m)) (undef, undef, undef) (fun _ => undef) (by kernel_rfl) (by kernel_rfl) rfl ⟨(Below.refl _ w1).drew, (fun h => by cases h), (fun h => by cases h), (fun h => by cases h)⟩ ?_ ?_
  · refine ⟨?_, ?_, ?_, ?_, ?_, ?_, ?_, ?_, ?_, ?_, ?_, ?_, ?_, ?_, ?_, ?_, ?_, ?_, ?_, ?_, trivial⟩
-- STEPS
    · intro γ y w2 b hb hp hcl hC hV K hK
      go_simp
      exact hK γ _ _ rfl (fun _ _ => rfl) (hC.other (by decide) (by decide) (by decide))
    · intro γ y w2 b hb hp hcl hC hV K hK
      have h0 : y 0 = .pointer (some ⟨fb, 0, none⟩) := hV 0 (hp 0 (by decide))
      go_simp
      go_at_call 14
      refine (metas_any (HF1.out.below hC.bel)).mono ?_
      rintro e w3 ⟨v3, rfl, hr, hb3⟩
      have hC3 := hC.below hb3
      exact hK (v3, γ.2.1, γ.2.2) _ _ (by simp [updV, VT, h0]) (fun q hq => VT_same1 fun e => by rw [e, hb] at hq; cases hq) (hC3.set1 (hr.mono (Nat.zero_le _)))
    · intro γ y w2 b hb hp hcl hC hV K hK
      go_simp
      exact hK γ _ _ rfl (fun _ _ => rfl) (hC.other (by decide) (by decide) (by decide))
    · intro γ y w2 b hb hp hcl hC hV K hK
      have h1 : y 1 = γ.1 := hV 1 (hp 1 (by decide))
      have h2 : y 2 = .slice la (metasOf m).length lc := hV 2 (hp 2 (by decide))
      go_simp
      go_at_call 18
      refine (ints_any (hC.r1 (hp 1 (by decide))) (HLR.out.below hC.bel) (by have := HML.out; omega) (by have := HML.out; omega)).mono ?_
      rintro e w3 ⟨rfl, nq, rfl⟩
      rw [decide_eq_true rfl]
      exact hK γ _ _ (by simp [updV, VT, h1, h2]) (fun _ _ => rfl) ((hC.below (below_drewN (Below.refl _ w2) nq)).other (by decide) (by decide) (by decide))
    · intro γ y w2 b hb hp hcl hC hV K hK
      have h3 : y 3 = .bool true := hV 3 (hp 3 (by decide))
      go_simp
      exact hK γ _ _ (by simp [updV, VT, h3]) (fun _ _ => rfl) (hC.other (by decide) (by decide) (by decide))
    · intro γ y w2 b hb hp hcl hC hV K hK
      have h4 : y 4 = .bool false := hV 4 (hp 4 (by decide))
      go_simp
      exact hK γ _ _ (by simp [updV, VT, h4]) (fun _ _ => rfl) (hC.other (by decide) (by decide) (by decide))
    · intro γ y w2 b hb hp hcl hC hV K hK
      have h5 : y 5 = .bool false := hV 5 (hp 5 (by decide))
      go_simp
      exact hK γ _ _ (by simp [updV, VT, h5]) (fun _ _ => rfl) (hC.other (by decide) (by decide) (by decide))
    · intro γ y w2 b hb hp hcl hC hV K hK
      have h5 : y 5 = .bool false := hV 5 (hp 5 (by decide))
      have h6 : y 6 = .pointer (some ⟨fb, 0, none⟩) := hV 6 (hp 6 (by decide))
      go_simp
      go_at_call 15
      refine (places_any (HF1.out.below hC.bel) HSM.out.inv).mono ?_
      rintro e w3 ⟨v3, rfl, hr, hb3⟩
      have hC3 := hC.below hb3
      exact hK (γ.1, v3, γ.2.2) _ _ (by simp [updV, VT, h5, h6]) (fun q hq => VT_same2 fun e => by rw [e, hb] at hq; cases hq) (hC3.set7 hr.q)
    · intro γ y w2 b hb hp hcl hC hV K hK
      have h5 : y 5 = .bool false := hV 5 (hp 5 (by decide))
      refine if_pos_wanted (by dsimp only; rw [h5]; rfl) ?_
      refine wp_load_row 68 _ rfl w.heap.size rfl 68 _ _ _ ((hC.bel.block _ (blk_lt OB1.out)).trans OB1.out) Tryd.underlying68 rfl (by rw [HSZ.out]; kernel_rfl) ?_
      exact hK γ _ _ rfl (fun _ _ => rfl) (hC.other (by decide) (by decide) (by decide))
    · intro γ y w2 b hb hp hcl hC hV K hK
      have h5 : y 5 = .bool false := hV 5 (hp 5 (by decide))
      have h8 : y 8 = .agg cs := hV 8 (hp 8 (by decide))
      go_simp
      go_at_call 45
      refine (rplaces_any HM.out (HV1.out.below hC.bel) HLL.out).mono ?_
      rintro e w3 ⟨v3, rfl, hr, hb3⟩
      rw [HSM.out.places] at hr
      have hC3 := hC.below hb3
      exact hK (γ.1, γ.2.1, v3) _ _ (by simp [updV, VT, h5, h8]) (fun q hq => VT_same3 fun e => by rw [e, hb] at hq; cases hq) (hC3.set9 hr.q)
    · intro γ y w2 b hb hp hcl hC hV K hK
      have h5 : y 5 = .bool false := hV 5 (hp 5 (by decide))
      have h7 : y 7 = γ.2.1 := hV 7 (hp 7 (by decide))
      have h9 : y 9 = γ.2.2 := hV 9 (hp 9 (by decide))
      go_simp
      go_at_call 44
      refine (rows_same (hC.r7 (hp 7 (by decide))) (hC.r9 (hp 9 (by decide))) (Nat.le_trans places_len (by decide))).mono ?_
      rintro e w3 ⟨rfl, hb3⟩
      exact hK γ _ _ (by simp [updV, VT, h5, h7, h9]) (fun _ _ => rfl) ((hC.below hb3).other (by decide) (by decide) (by decide))
    · intro γ y w2 b hb hp hcl hC hV K hK
      have h5 : y 5 = .bool false := hV 5 (hp 5 (by decide))
      have h10 : y 10 = .bool true := hV 10 (hp 10 (by decide))
      go_simp
      exact hK γ _ _ (by simp [updV, VT, h5, h10]) (fun _ _ => rfl) (hC.other (by decide) (by decide) (by decide))
    · intro γ y w2 b hb hp hcl hC hV K hK
      have h5 : y 5 = .bool false := hV 5 (hp 5 (by decide))
      have h11 : y 11 = .bool false := hV 11 (hp 11 (by decide))
      go_simp
      exact hK γ _ _ (by simp [updV, VT, h5, h11]) (fun _ _ => rfl) (hC.other (by decide) (by decide) (by decide))
    · intro γ y w2 b hb hp hcl hC hV K hK
      have h12 : y 12 = .bool false := hV 12 (hp 12 (by decide))
      go_simp
      exact hK γ _ _ (by simp [updV, VT, h12]) (fun _ _ => rfl) (hC.other (by decide) (by decide) (by decide))
    · intro γ y w2 b hb hp hcl hC hV K hK
      have h13 : y 13 = .bool false := hV 13 (hp 13 (by decide))
      go_simp
      exact hK γ _ _ (by simp [updV, VT, h13]) (fun _ _ => rfl) (hC.other (by decide) (by decide) (by decide))
    · intro γ y w2 b hb hp hcl hC hV K hK
      have h13 : y 13 = .bool false := hV 13 (hp 13 (by decide))
      have h14 : y 14 = .pointer (some ⟨fb, 0, none⟩) := hV 14 (hp 14 (by decide))
      go_simp
      go_at_call 20
      refine (root_any (HF1.out.below hC.bel) HSM.out.inv).mono ?_
      rintro e w3 ⟨rfl, hb3⟩
      exact hK γ _ _ (by simp [updV, VT, h13, h14]) (fun _ _ => rfl) ((hC.below hb3).other (by decide) (by decide) (by decide))
    · intro γ y w2 b hb hp hcl hC hV K hK
      have h13 : y 13 = .bool false := hV 13 (hp 13 (by decide))
      refine if_pos_wanted (by dsimp only; rw [h13]; rfl) ?_
      refine wp_load_row 68 _ rfl w.heap.size rfl 68 _ _ _ ((hC.bel.block _ (blk_lt OB1.out)).trans OB1.out) Tryd.underlying68 rfl (by rw [HSZ.out]; kernel_rfl) ?_
      exact hK γ _ _ rfl (fun _ _ => rfl) (hC.other (by decide) (by decide) (by decide))
    · intro γ y w2 b hb hp hcl hC hV K hK
      have h13 : y 13 = .bool false := hV 13 (hp 13 (by decide))
      have h16 : y 16 = .agg cs := hV 16 (hp 16 (by decide))
      go_simp
      go_at_call 46
      refine (rroot_any HM.out (HV1.out.below hC.bel) HLL.out).mono ?_
      rintro e w3 ⟨rfl, hb3⟩
      rw [HSM.out.root]
      exact hK γ _ _ (by simp [updV, VT, h13, h16]) (fun _ _ => rfl) ((hC.below hb3).other (by decide) (by decide) (by decide))
    · intro γ y w2 b hb hp hcl hC hV K hK
      have h13 : y 13 = .bool false := hV 13 (hp 13 (by decide))
      have h15 : y 15 = .agg (rootW d m).toArray := hV 15 (hp 15 (by decide))
      have h17 : y 17 = .agg (rootW d m).toArray := hV 17 (hp 17 (by decide))
      have hneq := HNEQ.out
      go_simp
      exact hK γ _ _ (by simp [updV, VT, h13, h15, h17]) (fun _ _ => rfl) (hC.other (by decide) (by decide) (by decide))
    · intro γ y w2 b hb hp hcl hC hV K hK
      have h13 : y 13 = .bool false := hV 13 (hp 13 (by decide))
      have h18 : y 18 = .bool false := hV 18 (hp 18 (by decide))
      go_simp
      exact hK γ _ _ (by simp [updV, VT, h13, h18]) (fun _ _ => rfl) (hC.other (by decide) (by decide) (by decide))
    -- END STEPS
  · rintro γ y w9 b hall hV hC
    have h19 : y 19 = .bool false := hV 19 (by decide)
    rw [h19]
    have HC := Lib.hid hC.bel
    clear hall hV hC h19
    go_wp2_with fail
    have HSTR := Lib.hid (below_call HB1.out HC.out (Nat.le_refl _))
    have HK0 : Hid (Below w1.heap.size w1 w9) := Lib.hid HC.out
    clear HC HSTR
    generalize hmsg : metasOf m = ms at *
    have HMS := Lib.hid hmsg
    clear hmsg
    have hms42 : ((ms.length : Nat) : Int) ≤ 42 := by have := HML.out; omega
    go_loopw [41] (fun i wr => ∃ k : Nat, k ≤ ms.length ∧ i = .int .i64 k ∧ Below w1.heap.size w1 wr) (fun i _ => ms.length - (RowKit.intOf i).toNat)
    case atStart => exact ⟨0, by omega, rfl, HK0.out⟩
    case round =>
      obtain ⟨k, hk, rfl, hbe⟩ := hrel
      have HE := Lib.hid hbe
      clear hbe HK0
      by_cases hk9 : k < ms.length
      · obtain ⟨n, hn⟩ : ∃ n, ms[k]? = some n := ⟨_, List.getElem?_eq_getElem hk9⟩
        have hmem : n ∈ metasOf m := by rw [HMS.out]; exact List.mem_of_getElem? hn
        have hsome : (m n).isSome = true := (List.mem_filter.1 hmem).2
        have hneg : n < 0 := (metasN_neg n (List.mem_filter.1 hmem).1).1
        have hhb : hasB d m n = true := by unfold hasB; rw [hsome, Bool.or_true]
        obtain ⟨g, c, he, _, _, hgl, hcell⟩ := HLR.out.cells (by omega)
        injection he with h1 h3 h2
        clear h3
        subst h1 h2
        have k0 : wr.cell? ⟨g, k, none⟩ = some (.int .i64 n) := (HE.out.cell (p := ⟨g, k, none⟩) hgl).trans (hcell k n hn)
        have b0 : (0 : Int) ≤ (k : Int) := by omega
        have b1 : (k : Int) < (ms.length : Int) := by omega
        have HBT := Lib.hid (block_there (HF1.out.below HE.out) HSM.out.inv hsome HBD.out)
        have HRB : Hid (∀ w2, Below w1.heap.size w1 w2 → Calls Tryd.prog 47 #[.agg cs, .int .i64 n] w2 fun e w' => e = .returned (.tuple #[.string (strOfNums (bytesN (ptrsN d m n))), .int .i64 0]) ∧ Below w2.heap.size w2 w') := Lib.hid fun w2 hw => by
          have := rblock_any (n := n) HM.out (HV1.out.below hw) HLL.out hneg (by rw [HSM.out.has]; exact hhb) (by rw [HSM.out.get]; exact HBD.out)
          rw [HSM.out.ptrs] at this
          exact this
        have HHB := Lib.hid hhb
        clear hmem hsome hneg hhb hcell hn
        go_wp2_with fail
        refine HBT.out.mono ?_
        rintro e w2 ⟨bv, rfl, hbr, hb2⟩
        have E2 := Lib.hid (below_call HE.out hb2 (Nat.le_refl _))
        have R2 := Lib.hid hbr
        have HRB2 := Lib.hid (HRB.out w2 E2.out)
        have ho := (E2.out.block _ (blk_lt OB1.out)).trans OB1.out
        obtain ⟨ba, bc, rfl⟩ := hbr.shape
        clear hb2 HBT HE k0 hbr HRB
        go_wp2_with (refine wpList_load_row rfl 68 _ rfl _ rfl 68 _ _ _ ho Tryd.underlying68 rfl (by rw [HSZ.out]; kernel_rfl) ?_)
        refine HRB2.out.mono ?_
        rintro e w3 ⟨rfl, hb3⟩
        have E3 := Lib.hid (below_call E2.out hb3 (Nat.le_refl _))
        have R3 := Lib.hid (R2.out.below hb3)
        clear hb3 HRB2 E2 R2 ho
        obtain ⟨st, hst⟩ : ∃ st, st = strOfNums (bytesN (ptrsN d m n)) := ⟨_, rfl⟩
        rw [← hst]
        obtain ⟨T, f, hT, hFt, hG⟩ := below_class w3.heap.size w3
        have hbt : ∀ t, Below w1.heap.size w1 (f t) := fun t => below_call E3.out (hFt t) (Nat.le_refl _)
        have K6 : Hid (∀ w', (∃ t, w' = f t) → w'.heap[w.heap.size]? = some (.cells cs 68 (0, 0))) := Lib.hid fun w' hw => by
          obtain ⟨t, rfl⟩ := hw
          exact ((hbt t).block _ (blk_lt OB1.out)).trans OB1.out
        have cv : ∀ t, (convert 57 9 (.slice ba (bytesN (ptrsN d m n)).length bc)).run Tryd.prog (f t) = .ok (.string st) (f t) := fun t => by rw [hst]; exact (R3.out.below (hFt t)).conv
        have HH : Hid (∀ t, Calls Tryd.prog 17 #[.pointer (some ⟨fb, 0, none⟩), .int .i64 n] (f t) fun e w' => e = .returned (.bool true) ∧ w' = f t) := Lib.hid fun t => by
          have := has_any (HF1.out.below (hbt t)) n
          rw [HHB.out] at this
          exact this
        have HG1 : Hid (∀ t, Calls Tryd.prog 16 #[.pointer (some ⟨fb, 0, none⟩), .int .i64 n] (f t) fun e w' => e = .returned (.int .i64 (adr d m n)) ∧ w' = f t) := Lib.hid fun t => get_any (HF1.out.below (hbt t)) HSM.out.inv n
        have HG2 : Hid (∀ t, Calls Tryd.prog 48 #[.agg cs, .int .i64 n] (f t) fun e w2 => e = .returned (.int .i64 (adr d m n)) ∧ Below (f t).heap.size (f t) w2) := Lib.hid fun t => by
          have := rget_any n HM.out (HV1.out.below (hbt t)) HLL.out
          rw [HSM.out.get] at this
          exact this
        have C0 := hG _ (below_drewN (Below.refl _ w3) 1)
        have HFT := Lib.hid hFt; have HGG := Lib.hid hG; have HBT := Lib.hid hbt
        clear hbt hFt hG hst R3
        generalize adr d m n = gn at *
        generalize (bytesN (ptrsN d m n)).length = bl at *
        go_wp2_with fail
        refine wp_region_class (C := fun w' => ∃ t, w' = f t) (by kernel_rfl) (by kernel_rfl) C0 ?_
        repeat (first
          | (go_big_quiet_step ((go_at_call 17; exact (HH.out _).mono fun e w'' ⟨he, hb⟩ => ⟨he, _, hb⟩)))
          | (go_big_quiet_step ((go_at_call 16; exact (HG1.out _).mono fun e w'' ⟨he, hb⟩ => ⟨he, _, hb⟩)))
          | (go_big_quiet_step ((go_at_call 48; exact (HG2.out _).mono fun e w'' ⟨he, hb⟩ => ⟨he, HGG.out _ (below_call (HFT.out _) hb (Nat.le_refl _))⟩)))
          | (go_big_quiet_want; refine quiet_load_row _ _ rfl _ rfl _ _ _ _ K6.out Tryd.underlying68 rfl (by rw [HSZ.out]; kernel_rfl) ?_; go_big_quiet_on; simp only [Act.put, List.setIfInBounds_toArray, List.set_cons_succ, List.set_cons_zero]))
        refine wpQuiet_nil ?_
        rintro w8 ⟨t, rfl⟩
        have E8 := Lib.hid (HBT.out t)
        clear cv HH HG1 HG2 C0 HFT HGG HBT K6
        generalize f t = w8 at E8 ⊢
        clear t hT f T
        go_wp2_with fail
        go_roundw
        case rel => exact ⟨k + 1, by omega, by go_num, E8.out⟩
        case measure => simp only [RowKit.intOf]; omega
      · obtain rfl : k = ms.length := by omega
        go_wp2_with fail
        go_loopw [12] (fun i wr => ∃ k : Nat, k ≤ 40 ∧ i = .int .i64 ((k : Int) - 10) ∧ Below w1.heap.size w1 wr) (fun i _ => (30 - RowKit.intOf i).toNat)
        case atStart => exact ⟨0, by omega, rfl, HE.out⟩
        case round =>
          obtain ⟨k, hk, rfl, hbe⟩ := hrel
          have HE2 := Lib.hid hbe
          clear hbe HE
          by_cases hk9 : k < 40
          · obtain ⟨n, hn⟩ : ∃ n : Int, n = (k : Int) - 10 := ⟨_, rfl⟩
            have hn0 : -10 ≤ n := by omega
            have hn1 : n < 30 := by omega
            have HNK := Lib.hid hn
            rw [← hn]
            clear hn
            have HCB : Hid (∃ bcode, Calls Tryd.prog 22 #[.pointer (some ⟨fb, 0, none⟩), .int .i64 n] wr (fun e w' => ∃ bv, e = .returned (.tuple #[bv, .int .i64 bcode]) ∧ Below wr.heap.size wr w') ∧
                ∀ w2, Below w1.heap.size w1 w2 → Calls Tryd.prog 47 #[.agg cs, .int .i64 n] w2 fun e w' => ∃ s, e = .returned (.tuple #[s, .int .i64 bcode]) ∧ Below w2.heap.size w2 w') := Lib.hid (by
              by_cases hsome : (m n).isSome = true
              · have hneg : n < 0 := (metasN_neg n (HSM.out.inv.metas hsome)).1
                refine ⟨0, (block_there (HF1.out.below HE2.out) HSM.out.inv hsome HBD.out).mono fun e w' h => ?_, fun w2 hw => (rblock_any (n := n) HM.out (HV1.out.below hw) HLL.out hneg (by rw [HSM.out.has]; unfold hasB; rw [hsome, Bool.or_true]) (by rw [HSM.out.get]; exact HBD.out)).mono fun e w' h => ⟨_, h.1, h.2⟩⟩
                obtain ⟨bv, h1, _, h3⟩ := h
                exact ⟨bv, h1, h3⟩
              · have hnone : m n = none := by
                  cases hq : m n with
                  | none => rfl
                  | some v => rw [hq] at hsome; exact absurd rfl hsome
                refine ⟨2, (block_none (HF1.out.below HE2.out) hnone).mono fun e w' h => ⟨_, h.1, by rw [h.2]; exact Below.refl _ _⟩, fun w2 hw => (rblock_none (n := n) HM.out ?_).mono fun e w' h => ⟨_, h.1, h.2⟩⟩
                by_cases h0 : 0 ≤ n
                · exact .inl h0
                · refine .inr ?_
                  rw [HSM.out.has]
                  unfold hasB
                  rw [hnone, HSM.out.inv.neg (by omega)]; rfl)
            obtain ⟨bcode, HB1', HB2'⟩ := HCB.out
            have HBA := Lib.hid HB1'; have HBB := Lib.hid HB2'
            clear HCB HB1' HB2'
            go_wp2_with fail
            refine HBA.out.mono ?_
            rintro e w2 ⟨bv, rfl, hb2⟩
            have E2 := Lib.hid (below_call HE2.out hb2 (Nat.le_refl _))
            have HRB2 := Lib.hid (HBB.out w2 E2.out)
            have ho := (E2.out.block _ (blk_lt OB1.out)).trans OB1.out
            clear hb2 HBA HE2 HBB
            go_wp2_with (refine wpList_load_row rfl 68 _ rfl _ rfl 68 _ _ _ ho Tryd.underlying68 rfl (by rw [HSZ.out]; kernel_rfl) ?_)
            refine HRB2.out.mono ?_
            rintro e w3 ⟨sv, rfl, hb3⟩
            have E3 := Lib.hid (below_call E2.out hb3 (Nat.le_refl _))
            clear hb3 HRB2 E2 ho
            obtain ⟨T, f, hT, hFt, hG⟩ := below_class w3.heap.size w3
            have hbt : ∀ t, Below w1.heap.size w1 (f t) := fun t => below_call E3.out (hFt t) (Nat.le_refl _)
            have K6 : Hid (∀ w', (∃ t, w' = f t) → w'.heap[w.heap.size]? = some (.cells cs 68 (0, 0))) := Lib.hid fun w' hw => by
              obtain ⟨t, rfl⟩ := hw
              exact ((hbt t).block _ (blk_lt OB1.out)).trans OB1.out
            have HH : Hid (∀ t, Calls Tryd.prog 17 #[.pointer (some ⟨fb, 0, none⟩), .int .i64 n] (f t) fun e w' => e = .returned (.bool (hasB d m n)) ∧ w' = f t) := Lib.hid fun t => has_any (HF1.out.below (hbt t)) n
            have HH2 : Hid (∀ t, Calls Tryd.prog 49 #[.agg cs, .int .i64 n] (f t) fun e w2 => e = .returned (.bool (hasB d m n)) ∧ Below (f t).heap.size (f t) w2) := Lib.hid fun t => by
              have := rhas_any (w := f t) n HM.out
              rw [HSM.out.has] at this
              exact this
            have HG1 : Hid (∀ t, Calls Tryd.prog 16 #[.pointer (some ⟨fb, 0, none⟩), .int .i64 n] (f t) fun e w' => e = .returned (.int .i64 (adr d m n)) ∧ w' = f t) := Lib.hid fun t => get_any (HF1.out.below (hbt t)) HSM.out.inv n
            have HG2 : Hid (∀ t, Calls Tryd.prog 48 #[.agg cs, .int .i64 n] (f t) fun e w2 => e = .returned (.int .i64 (adr d m n)) ∧ Below (f t).heap.size (f t) w2) := Lib.hid fun t => by
              have := rget_any n HM.out (HV1.out.below (hbt t)) HLL.out
              rw [HSM.out.get] at this
              exact this
            have C0 := hG _ (below_drewN (Below.refl _ w3) 1)
            have HFT := Lib.hid hFt; have HGG := Lib.hid hG; have HBT := Lib.hid hbt
            clear hbt hFt hG
            generalize adr d m n = gn at *
            generalize hasB d m n = hn' at *
            have e1 : (gn != gn) = false := by simp
            have e2 : (hn' != hn') = false := by simp
            have e3 : (bcode != bcode) = false := by simp
            go_wp2_with fail
            refine wp_region_class (C := fun w' => ∃ t, w' = f t) (by kernel_rfl) (by kernel_rfl) C0 ?_
            repeat (first
              | (go_big_quiet_step ((go_at_call 17; exact (HH.out _).mono fun e w'' ⟨he, hb⟩ => ⟨he, _, hb⟩)))
              | (go_big_quiet_step ((go_at_call 16; exact (HG1.out _).mono fun e w'' ⟨he, hb⟩ => ⟨he, _, hb⟩)))
              | (go_big_quiet_step ((go_at_call 48; exact (HG2.out _).mono fun e w'' ⟨he, hb⟩ => ⟨he, HGG.out _ (below_call (HFT.out _) hb (Nat.le_refl _))⟩)))
              | (go_big_quiet_step ((go_at_call 49; exact (HH2.out _).mono fun e w'' ⟨he, hb⟩ => ⟨he, HGG.out _ (below_call (HFT.out _) hb (Nat.le_refl _))⟩)))
              | (go_big_quiet_want; refine quiet_load_row _ _ rfl _ rfl _ _ _ _ K6.out Tryd.underlying68 rfl (by rw [HSZ.out]; kernel_rfl) ?_; go_big_quiet_on; simp only [Act.put, List.setIfInBounds_toArray, List.set_cons_succ, List.set_cons_zero]))
            refine wpQuiet_nil ?_
            rintro w8 ⟨t, rfl⟩
            have E8 := Lib.hid (HBT.out t)
            clear HH HH2 HG1 HG2 C0 HFT HGG HBT K6
            generalize f t = w8 at E8 ⊢
            clear t hT f T
            go_wp2_with fail
            go_roundw
            case rel => exact ⟨k + 1, by omega, by have := HNK.out; go_num, E8.out⟩
            case measure => simp only [RowKit.intOf]; have := HNK.out; omega
          · obtain rfl : k = 40 := by omega
            have RES := Lib.hid (below_call HB1.out HE2.out (Nat.le_refl _))
            go_wp2_with fail
            go_ret
            exact ⟨rfl, RES.out⟩
end Go.Proofs.YtklamgijikcnaaaDoor
