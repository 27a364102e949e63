/- Walks of child (of the inode), Root; of marlref01.Ints. -/
import Derived.Test.YtklamgijikcnaaaDoorF19
namespace Go.Proofs.YtklamgijikcnaaaDoor
open Go.RowKit

def rootsN : List Int := [0, 1, 2, 3, 4, 5, -6, -23, -280]
set_option maxHeartbeats 4000000 in
set_option maxRecDepth 100000 in
theorem child_root (s : Nat) (hs : s < 9) (w : World) :
    Calls Tryd.prog 39 #[.int .i64 600, .int .i64 s] w fun e w' => e = .returned (.tuple #[.int .i64 (rootsN.getD s 0), .bool true]) ∧ Below w.heap.size w w' := by
  have h : s = 0 ∨ s = 1 ∨ s = 2 ∨ s = 3 ∨ s = 4 ∨ s = 5 ∨ s = 6 ∨ s = 7 ∨ s = 8 := by omega
  rcases h with rfl | rfl | rfl | rfl | rfl | rfl | rfl | rfl | rfl
  all_goals
    clear hs
    go_enter Tryd.func39, Tryd.ntmps39
    go_wp2_with fail
    go_ret2
    exact ⟨rfl, (Below.refl _ w).alloc (Nat.le_refl _) _⟩
theorem ints_any {w : World} {B1 B2 : Nat} {v1 v2 : Value} {l1 l2 : List Int} (h1 : RowI w B1 v1 l1) (h2 : RowI w B2 v2 l2) (hl : l1.length ≤ 1000000000) (hl2 : l2.length ≤ 1000000000) :
    Calls Tryd.prog 18 #[v1, v2] w fun e w' => e = .returned (.bool (decide (l1 = l2))) ∧ ∃ n, w' = w.drewN n := by
  obtain ⟨a1, c1, rfl⟩ := h1.shape
  obtain ⟨a2, c2, rfl⟩ := h2.shape
  have H1 := Lib.hid h1; have H2 := Lib.hid h2
  clear h1 h2
  by_cases hlen : l1.length = l2.length
  · have q : ((l1.length : Int) != (l2.length : Int)) = false := by simp [hlen]
    have q2 : ((l1.length : Int) == (l2.length : Int)) = true := by simp [hlen]
    have HL := Lib.hid hlen
    clear hlen
    go_enter Tryd.func18, Tryd.ntmps18
    go_wp2_with fail
    go_loopw [13] (fun idx wr => ∃ i : Nat, i ≤ l1.length ∧ idx = .int .i64 i ∧ l1.take i = l2.take i ∧ ∃ n, wr = w.drewN n) (fun idx _ => l1.length - (RowKit.intOf idx).toNat)
    case atStart => exact ⟨0, by omega, rfl, by rw [List.take_zero, List.take_zero], 0, rfl⟩
    case round =>
      obtain ⟨i, hi, rfl, htk, hdr⟩ := hrel
      have HT := Lib.hid htk; have HD := Lib.hid hdr
      clear htk hdr
      by_cases hil : i < l1.length
      · obtain ⟨x, hx⟩ : ∃ x, l1[i]? = some x := ⟨_, List.getElem?_eq_getElem hil⟩
        have hil2 : i < l2.length := by rw [← HL.out]; exact hil
        obtain ⟨y, hy⟩ : ∃ y, l2[i]? = some y := ⟨_, List.getElem?_eq_getElem hil2⟩
        obtain ⟨g1, d1, e1, _, _, _, k1⟩ := H1.out.cells (by omega)
        obtain ⟨g2, d2, e2, _, _, _, k2⟩ := H2.out.cells (by omega)
        injection e1 with e1 _ e1'
        injection e2 with e2 _ e2'
        subst e1 e1' e2 e2'
        have x1 : wr.cell? ⟨g1, i, none⟩ = some (.int .i64 x) := by obtain ⟨n, hn⟩ := HD.out; rw [hn]; exact k1 i x hx
        have x2 : wr.cell? ⟨g2, i, none⟩ = some (.int .i64 y) := by obtain ⟨n, hn⟩ := HD.out; rw [hn]; exact k2 i y hy
        have b0 : (0 : Int) ≤ (i : Int) := by omega
        have b1 : (i : Int) < (l1.length : Int) := by omega
        have b2 : (i : Int) < (l2.length : Int) := by omega
        have hdq : ∀ q, ∃ k, wr.drewN q = w.drewN k := fun q => by obtain ⟨k, hk⟩ := HD.out; rw [hk]; exact ⟨_, by rw [World.drewN_drewN]⟩
        have HDQ := Lib.hid hdq
        have HX := Lib.hid hx; have HY := Lib.hid hy
        clear k1 k2 hdq hx hy
        by_cases hxy : x = y
        · have q3 : (x != y) = false := by simp [hxy]
          have q4 : (x == y) = true := by simp [hxy]
          have HXY := Lib.hid hxy
          clear hxy
          go_wp2_with fail
          go_quiet (fail)
          go_wp2_with fail
          go_roundw
          case rel => exact ⟨i + 1, by omega, by go_num, by rw [take_at HX.out, take_at HY.out, HT.out, HXY.out], HDQ.out _⟩
          case measure => simp only [RowKit.intOf]; omega
        · have q3 : (x != y) = true := by simp [hxy]
          have q4 : (x == y) = false := by simp [hxy]
          have hne : l1 ≠ l2 := fun e => by
            have h1 := HX.out
            rw [e, HY.out] at h1
            exact hxy (Option.some.inj h1).symm
          have HNE := Lib.hid hne
          clear hne
          go_wp2_with fail
          go_quiet (fail)
          go_wp2_with fail
          go_ret
          exact ⟨by rw [dec_false HNE.out]; rfl, HDQ.out _⟩
      · obtain rfl : i = l1.length := by omega
        have heq : l1 = l2 := by
          have := HT.out
          rw [List.take_length, HL.out, List.take_length] at this
          exact this
        have HE := Lib.hid heq
        clear heq
        go_wp2_with fail
        go_ret
        exact ⟨by rw [dec_true HE.out]; rfl, HD.out⟩
  · have q : ((l1.length : Int) != (l2.length : Int)) = true := by simp; omega
    have q2 : ((l1.length : Int) == (l2.length : Int)) = false := by simp; omega
    have hne : l1 ≠ l2 := fun e => hlen (by rw [e])
    have HNE := Lib.hid hne
    clear hne
    go_enter Tryd.func18, Tryd.ntmps18
    go_wp2_with fail
    go_ret
    exact ⟨by rw [dec_false HNE.out]; rfl, 0, rfl⟩
def rootW (d : Int → Int) (m : MM) : List Value := rootsN.map fun c => .int .u32 (IntKind.u32.wrap (adr d m c))
def zeros9 : List Value := List.replicate 9 (.int .u32 0)
def RootSt (w : World) (d : Int → Int) (m : MM) (s : Nat) (wr : World) : Prop :=
  wr.heap[w.heap.size]? = some (.cells zeros9.toArray 55 (0, 0)) ∧ wr.heap[w.heap.size + 1]? = some (.cells (fill (rootW d m) zeros9 s).toArray 55 (0, 0)) ∧ Below w.heap.size w wr
set_option maxHeartbeats 2000000 in
set_option maxRecDepth 100000 in
theorem root_any {w : World} {fb : Nat} {d : Int → Int} {m : MM} {F : Nat → Prop} (hF : FAt w fb d m F) (hI : Inv d m) :
    Calls Tryd.prog 20 #[.pointer (some ⟨fb, 0, none⟩)] w fun e w' => e = .returned (.agg (rootW d m).toArray) ∧ Below w.heap.size w w' := by
  have HF := Lib.hid hF; have HI := Lib.hid hI
  clear hF hI
  go_enter Tryd.func20, Tryd.ntmps20
  go_wp2_with fail
  have ST : Hid (RootSt w d m 0 ((w.alloc (.cells #[.int .u32 0, .int .u32 0, .int .u32 0, .int .u32 0, .int .u32 0, .int .u32 0, .int .u32 0, .int .u32 0, .int .u32 0] 55)).alloc (.cells #[.int .u32 0, .int .u32 0, .int .u32 0, .int .u32 0, .int .u32 0, .int .u32 0, .int .u32 0, .int .u32 0, .int .u32 0] 55))) :=
    Lib.hid ⟨blk_old (blk_new rfl), by rw [fill_zero]; exact blk_new (by simp), ((Below.refl _ w).alloc (Nat.le_refl _) _).alloc (by simp) _⟩
  generalize ((w.alloc (.cells #[.int .u32 0, .int .u32 0, .int .u32 0, .int .u32 0, .int .u32 0, .int .u32 0, .int .u32 0, .int .u32 0, .int .u32 0] 55)).alloc (.cells #[.int .u32 0, .int .u32 0, .int .u32 0, .int .u32 0, .int .u32 0, .int .u32 0, .int .u32 0, .int .u32 0, .int .u32 0] 55)) = w0 at ST ⊢
  go_loopw [7] (fun idx wr => ∃ s : Nat, s ≤ 9 ∧ idx = .int .i64 s ∧ RootSt w d m s wr) (fun idx _ => 9 - (RowKit.intOf idx).toNat)
  case atStart => exact ⟨0, by omega, rfl, ST.out⟩
  case round =>
    obtain ⟨s, hs, rfl, hst⟩ := hrel
    clear ST
    have HS := Lib.hid hst
    clear hst
    by_cases hs9 : s < 9
    · have HC := Lib.hid (fun w => child_root s hs9 w)
      go_wp2_with fail
      refine (HC.out _).mono ?_
      rintro e w1 ⟨rfl, hb1⟩
      have hF1 := (HF.out.fr (S := fun _ => False) ((Fr.below HS.out.2.2).mono fun _ _ => id) (fun _ _ => id) id).below hb1
      have hr1 := (hb1.block _ (blk_lt HS.out.1)).trans HS.out.1
      have hp1 := (hb1.block _ (blk_lt HS.out.2.1)).trans HS.out.2.1
      have hbel := below_call HS.out.2.2 hb1 (Nat.le_refl _)
      have HG := Lib.hid (get_any hF1 HI.out (rootsN.getD s 0))
      have hfl : (fill (rootW d m) zeros9 s).length = 9 := fill_length _ _ _ rfl
      obtain ⟨u, hu⟩ : ∃ u, (fill (rootW d m) zeros9 s).toArray[s]? = some u := ⟨_, Array.getElem?_eq_getElem (by rw [List.size_toArray, hfl]; exact hs9)⟩
      have hcell := cell_blk_some hp1 hu
      have hfz := free_blk (i := s) hp1
      have hs0 : (0 : Int) ≤ (s : Int) := by omega
      have hs1 : (s : Int) < 9 := by omega
      have hP1 := Lib.hid hp1; have hR1 := Lib.hid hr1; have HB := Lib.hid hbel
      clear hF1 hr1 hp1 hbel hb1 hu hfl HC
      obtain ⟨a, ha⟩ : ∃ a, a = adr d m (rootsN.getD s 0) := ⟨_, rfl⟩
      rw [← ha] at HG
      have HA := Lib.hid ha
      clear ha
      go_wp2_with fail
      refine HG.out.mono ?_
      rintro e w2 ⟨rfl, rfl⟩
      go_wp2_with fail
      go_roundw
      case rel =>
        refine ⟨s + 1, by omega, by go_num, blk_set_other hR1.out (by show w.heap.size ≠ w.heap.size + 1; omega) _, ?_, HB.out.setCell (by show w.heap.size ≤ w.heap.size + 1; omega) _⟩
        have h1 := blk_set (i := s) hP1.out (.int .u32 (IntKind.u32.wrap a))
        rw [fill_set (rootW d m) zeros9 s rfl (by show s < 9; exact hs9) _ (by unfold rootW; rw [List.getElem?_map, List.getElem?_eq_getElem (by show s < 9; exact hs9), HA.out, List.getD_eq_getElem?_getD, List.getElem?_eq_getElem (by show s < 9; exact hs9)]; rfl)] at h1
        exact h1
      case measure => simp only [RowKit.intOf]; omega
    · obtain rfl : s = 9 := by omega
      have h2 := HS.out.2.1
      rw [show fill (rootW d m) zeros9 9 = rootW d m from fill_all (rootW d m) zeros9 rfl] at h2
      have H2 := Lib.hid h2; have H1 := Lib.hid HS.out.1
      clear h2
      go_wp2_with (first
        | (refine wpList_load_row rfl 55 _ rfl _ rfl 55 _ _ _ H2.out Tryd.underlying55 rfl (by kernel_rfl) ?_)
        | (refine wpList_store_row rfl 55 _ _ rfl w.heap.size (rootW d m).toArray rfl rfl 55 _ H1.out (by kernel_rfl) rfl (by unfold rootW; rw [List.all_toArray, List.all_map]; rfl) ?_))
      have h3 := setRow_heap _ _ _ (rootW d m).toArray _ _ H1.out
      refine bodyPost_ret (results_cell_row rfl _ _ w.heap.size _ _ _ _ rfl h3 Tryd.underlying55 rfl (by kernel_rfl)) rfl ?_
      refine ⟨rfl, ?_⟩
      have hb := HS.out.2.2
      exact ⟨hb.os, hb.tape, hb.output, by rw [setRow_size]; exact hb.size, fun b hb' => by rw [setRow_other _ _ _ _ (by omega)]; exact hb.block b hb'⟩
end Go.Proofs.YtklamgijikcnaaaDoor
