/- Walk of the reference's deep. -/
import Derived.Test.YtoofcnehoffllaaGreatR14
import Derived.Test.YtoofcnehoffllaaGreatT44
import Derived.Test.YtoofcnehoffllaaGreatQuiet
namespace Go.Proofs.YtoofcnehoffllaaGreat
open Go.RowKit

section
variable {D : Nat → Prop} {v : Value} {cap : Nat} {M : TM}
set_option maxHeartbeats 8000000 in
set_option maxRecDepth 100000 in
theorem refDeep_any (hG : TG M cap) (hS : TS M) : ∀ (fuel : Nat) (lp : List ByteArray) (i : Nat) (w : World), goE (entN M) 2 lp = some i → 256 ≤ fuel + lp.length → RefIs D w v cap (refM M) →
    Calls Tryz.prog 59 #[treeV v, .int .i64 i] w fun e w' => e = .returned (.int .i64 (deepN M i)) ∧ Below w.heap.size w w' := by
  intro fuel
  induction fuel with
  | zero =>
    intro lp i w hl hf
    have := (hS.len hl).2
    omega
  | succ fuel ih =>
    intro lp i w hl hf h
    have hi : (M i).isSome = true := by
      rcases snoc_cases lp with rfl | ⟨r, s, rfl⟩
      · injection hl with hl; subst hl; exact hG.ok.root_there
      · obtain ⟨p, _, hp⟩ := goE_snoc.1 hl
        exact hG.ok.ent p s i hp
    obtain ⟨nd, hm⟩ := Option.isSome_iff_exists.1 hi
    have hic := (hG.ok.low i nd hm).2
    have i0 : (0 : Int) ≤ (i : Int) := by omega
    have i1 : (i : Int) < (cap : Int) := by omega
    obtain ⟨hcap, g, c, hvv, hD, hg, hn⟩ := id h
    subst hvv
    obtain ⟨ev, k0, -, k2, L, hL, hLl, ea, ec, rfl, hrow⟩ := hn i hic
    obtain ⟨ht1, ht2⟩ := top_new w (.slice (some ⟨g, 0, none⟩) cap c)
    have H := Lib.hid h; have HL := Lib.hid hl; have HFU := Lib.hid hf; have IH := Lib.hid ih; have HGS := Lib.hid hG; have HSS := Lib.hid hS; have HEL := Lib.hid hL; have HROW := Lib.hid hrow
    have HB0 := Lib.hid ht1; have HT0 := Lib.hid ht2
    have HK0 := Lib.hid k0; have HK2 := Lib.hid k2
    clear h hn hl hf ih hG hS hL hrow hm hi ht1 ht2 k0 k2
    unfold treeV
    go_enter Tryz.func59, Tryz.ntmps59
    have k0 := (World.cell?_of_block (w := w) (a := ⟨g, i * 3, none⟩) (HB0.out.block g hg)).trans HK0.out
    have c0 := cell_blk_some HT0.out (i := 0) rfl
    cases hd : isDir M i with
    | false =>
      have HR := Lib.hid (deepN_of (DeepIs.file hd))
      have hq := (refM_file hd).1
      clear hd
      generalize (refM M i).kd = kd at *
      go_wp2_with fail
      go_ret
      exact ⟨by rw [HR.out]; rfl, HB0.out⟩
    | true =>
      have HDI := Lib.hid hd
      rw [refM_dir hd] at k0
      have k2 := (World.cell?_of_block (w := w) (a := ⟨g, i * 3 + 2, none⟩) (HB0.out.block g hg)).trans HK2.out
      clear hd
      go_wp2_with fail
      generalize w.alloc (.cells #[.slice (some ⟨g, 0, none⟩) cap c] 30) = w0 at *
      clear k0 k2 c0
      go_loopw [5, 22] (fun mv idx wy => ∃ (k : Nat) (m : Int), k ≤ L.length ∧ idx = .int .i64 k ∧ mv = .int .i64 m ∧ DeepSt M i ((L.take k).map fun x => x.1) m ∧ Below w0.heap.size w0 wy) (fun _ idx _ => L.length - (RowKit.intOf idx).toNat)
      case atStart => exact ⟨0, 1, by omega, rfl, rfl, .start HDI.out, Below.refl _ _⟩
      case round =>
        obtain ⟨k, m, hk, rfl, rfl, hst, hby⟩ := hrel
        have HST := Lib.hid hst; have HBY := Lib.hid hby
        have HBW := Lib.hid (below_call HB0.out hby (Nat.le_refl _))
        have hlo := hst.lo
        obtain ⟨m1, m2⟩ := hlo
        clear hst hby
        by_cases hkl : k < L.length
        · obtain ⟨x, hx⟩ : ∃ x, L[k]? = some x := ⟨_, List.getElem?_eq_getElem hkl⟩
          obtain ⟨s, j⟩ := x
          obtain ⟨ge, oe, rfl, -, hge, hcell⟩ := HROW.out (by omega)
          obtain ⟨x0, x1⟩ := hcell k (s, j) hx
          have hen : entN M i s = some j := by rw [← refM_en]; exact (HEL.out.2 s j).1 (List.mem_of_getElem? hx)
          have hgj : goE (entN M) 2 (lp ++ [s]) = some j := goE_snoc.2 ⟨i, HL.out, hen⟩
          have HC := Lib.hid (fun wz (hb : Below w.heap.size w wz) => IH.out (lp ++ [s]) j wz hgj (by have := HFU.out; rw [List.length_append, List.length_singleton]; omega) (H.out.below hb))
          have HGJ := Lib.hid hgj; have HEN := Lib.hid hen
          have hsz := (nameE_len (HSS.out.nam i s j hen)).1
          have hss := Lib.size_eq s
          have s1 : (s.size : Int) ≤ 14 := by omega
          obtain ⟨Z, hZ⟩ : ∃ Z, DeepIs M j Z := deep_exists HSS.out hgj
          have hZN := deepN_of hZ
          obtain ⟨d1, d2⟩ := hZ.bd HSS.out hgj
          rw [hZN] at HC
          obtain ⟨T, f, hT, hF, hG2⟩ := below_class wr.heap.size wr
          have hbt : ∀ t, Below w.heap.size w (f t) := fun t => below_call HBW.out (hF t) (Nat.le_refl _)
          have hbt0 : ∀ t, Below w0.heap.size w0 (f t) := fun t => below_call HBY.out (hF t) (Nat.le_refl _)
          have f0 : ∀ t, (f t).cell? ⟨ge, oe + k * 2, none⟩ = some (.string s) := fun t => (World.cell?_of_block (w := w) (a := ⟨ge, oe + k * 2, none⟩) ((hbt t).block ge hge)).trans x0
          have f1 : ∀ t, (f t).cell? ⟨ge, oe + k * 2 + 1, none⟩ = some (.int .i64 j) := fun t => (World.cell?_of_block (w := w) (a := ⟨ge, oe + k * 2 + 1, none⟩) ((hbt t).block ge hge)).trans x1
          have f2 : ∀ t, (f t).cell? ⟨g, i * 3 + 2, none⟩ = some (.slice (some ⟨ge, oe, none⟩) L.length ec) := fun t => (World.cell?_of_block (w := w) (a := ⟨g, i * 3 + 2, none⟩) ((hbt t).block g hg)).trans HK2.out
          have f3 : ∀ t, (f t).cell? ⟨w.heap.size, 0, none⟩ = some (.slice (some ⟨g, 0, none⟩) cap c) := fun t => cell_blk_some (((hbt0 t).block _ (blk_lt HT0.out)).trans HT0.out) rfl
          have HCT : Hid (∀ t, Calls Tryz.prog 59 #[.agg #[.slice (some ⟨g, 0, none⟩) cap c], .int .i64 j] (f t) fun e w' => e = .returned (.int .i64 Z) ∧ Below (f t).heap.size (f t) w') := Lib.hid fun t => HC.out _ (hbt t)
          have HBT := Lib.hid hbt; have HBT0 := Lib.hid hbt0; have HF := Lib.hid hF; have HG2 := Lib.hid hG2; have HXX := Lib.hid hx
          have C0 := hG2 _ (below_drewN (Below.refl _ wr) 1)
          have hstep := HST.out.step HSS.out HL.out hen hZ
          rw [← List.map_singleton (f := fun x : ByteArray × Nat => x.1) (a := (s, j)), ← List.map_append, ← take_succ' hx] at hstep
          have HSTEP := Lib.hid hstep
          have k0 : (0 : Int) ≤ (k : Int) := by omega
          have k1 : (k : Int) < (L.length : Int) := by omega
          have w1' : IntKind.i64.wrap (1 + (s.size : Int)) = 1 + (s.size : Int) := IntWalk.i64_in _ (by omega)
          have w2' : IntKind.i64.wrap (1 + (s.size : Int) + Z) = 1 + (s.size : Int) + Z := IntWalk.i64_in _ (by omega)
          clear hx hcell x0 x1 hen hgj hsz hss hbt hbt0 hF hG2 IH HC hZ hZN hstep
          go_wp2_with fail
          refine wp_region_class (C := fun w' => ∃ t, w' = f t) (by kernel_rfl) (by kernel_rfl) C0 ?_
          repeat (first
            | (go_big_quiet_step ((go_at_call 59; exact (HCT.out _).mono fun e w'' ⟨he, hb⟩ => ⟨he, HG2.out _ (below_call (HF.out _) hb (Nat.le_refl _))⟩))))
          refine wpQuiet_nil ?_
          rintro w9 ⟨t, rfl⟩
          have HB9 := Lib.hid (HBT0.out t)
          clear f0 f1 f2 f3 HCT C0 HF HG2 HBT HBT0
          generalize f t = w9 at HB9 ⊢
          clear t hT f T
          by_cases hm : m < 1 + (s.size : Int) + Z
          · have hq : decide (m < 1 + (s.size : Int) + Z) = true := dec_true hm
            have HMX : Hid (max m (1 + (s.size : Int) + Z) = 1 + (s.size : Int) + Z) := Lib.hid (by omega)
            clear hm
            go_wp2_with fail
            go_roundw
            case rel => exact ⟨k + 1, _, by omega, by go_num, rfl, by have := HSTEP.out; rw [HMX.out] at this; exact this, HB9.out⟩
            case measure => simp only [RowKit.intOf]; omega
          · have hq : decide (m < 1 + (s.size : Int) + Z) = false := dec_false hm
            have HMX : Hid (max m (1 + (s.size : Int) + Z) = m) := Lib.hid (by omega)
            have hm2 : 1 + (s.size : Int) + Z ≤ m := by omega
            clear hm
            go_wp2_with fail
            go_roundw
            case rel => exact ⟨k + 1, _, by omega, by go_num, rfl, by have := HSTEP.out; rw [HMX.out] at this; exact this, HB9.out⟩
            case measure => simp only [RowKit.intOf]; omega
        · obtain rfl : k = L.length := by omega
          rw [List.take_length] at HST
          have HR := Lib.hid (deepN_of (HST.out.done fun s hs => by
            obtain ⟨j, hj⟩ := Option.isSome_iff_exists.1 hs
            rw [← refM_en] at hj
            exact List.mem_map.2 ⟨(s, j), (HEL.out.2 s j).2 hj, rfl⟩))
          go_wp2_with fail
          go_ret
          exact ⟨by rw [HR.out]; rfl, HBW.out⟩
end
end Go.Proofs.YtoofcnehoffllaaGreat
