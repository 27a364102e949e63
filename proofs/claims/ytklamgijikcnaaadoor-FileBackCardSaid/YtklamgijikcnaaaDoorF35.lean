/- Walks of file's child, of inode's get, put. -/
/- Walk of inode's Pointers. -/
import Derived.Test.YtklamgijikcnaaaDoorF33
namespace Go.Proofs.YtklamgijikcnaaaDoor
open Go.RowKit

set_option maxHeartbeats 2000000 in
set_option maxRecDepth 100000 in
theorem child_meta {n : Int} (hn : n ∈ metasN) (s : Nat) (hs : s < 16) {w : World} (S : SpanAt w) :
    Calls Tryd.prog 39 #[.int .i64 n, .int .i64 s] w fun e w' => e = .returned (.tuple #[.int .i64 ((childN n s).getD 0), .bool (childN n s).isSome]) ∧ ∃ k, w' = w.drewN k := by
  obtain ⟨h1, h2, h3⟩ := metas_find n hn
  obtain ⟨hneg, _⟩ := metasN_neg n hn
  obtain ⟨l, f, hlf⟩ : ∃ l f, findN n = some (l, f) := by
    cases hq : findN n with
    | none => rw [hq] at h1; cases h1
    | some v => exact ⟨v.1, v.2, rfl⟩
  obtain ⟨e1, e2⟩ := lvl_of hlf
  obtain ⟨f0, f1, _, _, _, _⟩ := findN_bd hlf
  have hch : childN n s = if 600 ≤ f + s * wideN (l - 1) then none else if l = 1 then some (f + s * wideN (l - 1)) else some (-(f + s * wideN (l - 1)) - ((l : Int) - 2)) := by
    unfold childN
    rw [if_neg (by omega), e1, e2]
  rw [e1] at h2 h3
  have q0 : (n == 600) = false := beq_eq_false_iff_ne.2 (by omega)
  have hL := Lib.hid (level_ok hlf S)
  have hC := Lib.hid (fun k => covers_ok hlf (S.drewN k))
  have i0 : ∀ w, (Instr.index 123 (.agg #[.int .i64 0, .int .i64 1, .int .i64 16, .int .i64 256]) (.int .i64 l)).run Tryd.prog w = .ok (.int .i64 (wideN (l - 1))) w := by
    have : l = 1 ∨ l = 2 ∨ l = 3 := by omega
    rcases this with rfl | rfl | rfl <;> exact fun _ => by kernel_rfl
  have hq := wideN_bd (l - 1)
  have hw4 : (s : Int) * wideN (l - 1) ≤ 15 * 4096 := Int.mul_le_mul (by omega) hq.2 (by omega) (by omega)
  have hw0 : 0 ≤ (s : Int) * wideN (l - 1) := Int.mul_nonneg (by omega) (by omega)
  have hcase : ∃ c b, (childN n s).getD 0 = c ∧ (childN n s).isSome = b ∧ (600 ≤ f + (s : Int) * wideN (l - 1) ∧ c = 0 ∧ b = false ∨ f + (s : Int) * wideN (l - 1) < 600 ∧ l = 1 ∧ c = f + (s : Int) * wideN (l - 1) ∧ b = true ∨ f + (s : Int) * wideN (l - 1) < 600 ∧ 2 ≤ l ∧ c = -(f + (s : Int) * wideN (l - 1)) - ((l : Int) - 2) ∧ b = true) := by
    rw [hch]
    by_cases h6 : 600 ≤ f + (s : Int) * wideN (l - 1)
    · rw [if_pos h6]; exact ⟨_, _, rfl, rfl, .inl ⟨h6, rfl, rfl⟩⟩
    · rw [if_neg h6]
      by_cases hl : l = 1
      · rw [if_pos hl]; exact ⟨_, _, rfl, rfl, .inr (.inl ⟨by omega, hl, rfl, rfl⟩)⟩
      · rw [if_neg hl]; exact ⟨_, _, rfl, rfl, .inr (.inr ⟨by omega, by omega, rfl, rfl⟩)⟩
  obtain ⟨c, b, hc1, hc2, hcase⟩ := hcase
  rw [hc1, hc2]
  generalize wideN (l - 1) = q at *
  have HC := Lib.hid hcase
  clear hch h1 e1 e2 hlf hn S hq hc1 hc2 hcase
  go_enter Tryd.func39, Tryd.ntmps39
  go_wp2_with fail
  refine hL.out.mono ?_
  rintro e w1 ⟨rfl, k, rfl⟩
  go_wp2_with fail
  refine (hC.out k).mono ?_
  rintro e w2 ⟨rfl, k2, rfl⟩
  rcases HC.out with ⟨h6, rfl, rfl⟩ | ⟨h6, rfl, rfl, rfl⟩ | ⟨h6, hl, rfl, rfl⟩
  · go_wp2_with fail
    all_goals
      go_ret2
      exact ⟨rfl, _, rfl⟩
  · have h6' : decide (600 ≤ f + (s : Int) * q) = false := by simpa using h6
    go_wp2_with fail
    all_goals
      go_ret2
      exact ⟨rfl, _, rfl⟩
  · have h6' : decide (600 ≤ f + (s : Int) * q) = false := by simpa using h6
    have q1 : ((l : Int) == 1) = false := beq_eq_false_iff_ne.2 (by omega)
    have l0 : (2 : Int) ≤ (l : Int) := by omega
    have l1 : (l : Int) ≤ 3 := by omega
    go_wp2_with fail
    all_goals
      go_ret2
      exact ⟨rfl, _, rfl⟩
theorem or64 (i : Nat) (y x : Int) (hy0 : 0 ≤ y) (hy : y < 2 ^ i) (hx0 : 0 ≤ x) (hx : x % 2 ^ i = 0) (hx1 : x < 4294967296) (hy1 : y < 4294967296) : bits .or .i64 y x = y + x := by
  have e : (2 : Int) ^ 63 = 9223372036854775808 := by decide
  exact bits_join_low .i64 63 (by decide) (fun n h0 h1 => IntWalk.i64_in _ (by omega)) i y x hy0 hy (by omega) hx0 hx (by omega)
theorem or_four (x0 x1 x2 x3 : Int) (h0 : 0 ≤ x0 ∧ x0 < 256) (h1 : 0 ≤ x1 ∧ x1 < 256) (h2 : 0 ≤ x2 ∧ x2 < 256) (h3 : 0 ≤ x3 ∧ x3 < 256) :
    bits .or .i64 (bits .or .i64 (bits .or .i64 (bits .or .i64 0 x0) (x1 * 256)) (x2 * 65536)) (x3 * 16777216) = x0 + 256 * x1 + 65536 * x2 + 16777216 * x3 := by
  have p0 : (2 : Int) ^ 0 = 1 := rfl
  have p8 : (2 : Int) ^ 8 = 256 := rfl
  have p16 : (2 : Int) ^ 16 = 65536 := rfl
  have p24 : (2 : Int) ^ 24 = 16777216 := rfl
  rw [or64 0 0 x0 (by omega) (by omega) (by omega) (by omega) (by omega) (by omega), or64 8 _ (x1 * 256) (by omega) (by omega) (by omega) (by omega) (by omega) (by omega), or64 16 _ (x2 * 65536) (by omega) (by omega) (by omega) (by omega) (by omega) (by omega), or64 24 _ (x3 * 16777216) (by omega) (by omega) (by omega) (by omega) (by omega) (by omega)]
  omega
theorem get_four (x0 x1 x2 x3 : Int) (g o c : Nat) (w : World) (c0 : w.cell? ⟨g, o, none⟩ = some (.int .u8 x0)) (c1 : w.cell? ⟨g, o + 1, none⟩ = some (.int .u8 x1)) (c2 : w.cell? ⟨g, o + 2, none⟩ = some (.int .u8 x2)) (c3 : w.cell? ⟨g, o + 3, none⟩ = some (.int .u8 x3))
    (h0 : 0 ≤ x0 ∧ x0 < 256) (h1 : 0 ≤ x1 ∧ x1 < 256) (h2 : 0 ≤ x2 ∧ x2 < 256) (h3 : 0 ≤ x3 ∧ x3 < 256) :
    Calls Tryd.prog 61 #[.slice (some ⟨g, o, none⟩) 4 c] w fun e w' => e = .returned (.int .i64 (x0 + 256 * x1 + 65536 * x2 + 16777216 * x3)) ∧ w' = w := by
  go_enter Tryd.func61, Tryd.ntmps61
  go_wp2_with fail
  refine wp_loop_rounds 5 ?_
  rw [rounds_succ]
  go_wp2_with fail
  rw [rounds_succ]
  go_wp2_with fail
  rw [rounds_succ]
  go_wp2_with fail
  rw [rounds_succ]
  go_wp2_with fail
  rw [rounds_succ]
  go_wp2_with fail
  go_ret
  exact ⟨congrArg (fun z => Ending.returned (Value.int .i64 z)) (or_four x0 x1 x2 x3 h0 h1 h2 h3), rfl⟩
end Go.Proofs.YtklamgijikcnaaaDoor

namespace Go.Proofs.YtklamgijikcnaaaDoor
open Go.RowKit

/-- The slice v reads as the bytes l. -/
def RowB (w : World) (v : Value) (l : List Int) : Prop :=
  ∃ a c, v = .slice a l.length c ∧ l.length ≤ c ∧ (∀ x ∈ l, 0 ≤ x ∧ x < 256) ∧ (0 < l.length → ∃ g o, a = some ⟨g, o, none⟩ ∧ g < w.heap.size ∧ ∀ (j : Nat) x, l[j]? = some x → w.cell? ⟨g, o + j, none⟩ = some (.int .u8 x))
theorem RowB.shape {w : World} {v : Value} {l : List Int} (h : RowB w v l) : ∃ a c, v = .slice a l.length c := by
  obtain ⟨a, c, rfl, _⟩ := h
  exact ⟨a, c, rfl⟩
theorem RowB.below {w w' : World} {v : Value} {l : List Int} (h : RowB w v l) (hb : Below w.heap.size w w') : RowB w' v l := by
  obtain ⟨a, c, rfl, hc, hx, hr⟩ := h
  refine ⟨a, c, rfl, hc, hx, fun h0 => ?_⟩
  obtain ⟨g, o, rfl, hg, hcell⟩ := hr h0
  exact ⟨g, o, rfl, Nat.lt_of_lt_of_le hg hb.size, fun j x hj => (hb.cell (p := ⟨g, o + j, none⟩) hg).trans (hcell j x hj)⟩
def wordN (bs : List Int) (i : Nat) : Int := bs.getD (4 * i) 0 + 256 * bs.getD (4 * i + 1) 0 + 65536 * bs.getD (4 * i + 2) 0 + 16777216 * bs.getD (4 * i + 3) 0
def wordsN (bs : List Int) : List Int := (List.range 16).map (wordN bs)
def u32s (l : List Int) : List Value := l.map (Value.int .u32)
def zeros16 : List Value := List.replicate 16 (.int .u32 0)
theorem wordsN_bd {bs : List Int} (h : ∀ x ∈ bs, 0 ≤ x ∧ x < 256) : ∀ p ∈ wordsN bs, 0 ≤ p ∧ p < 4294967296 := fun p hp => by
  have hg : ∀ j, 0 ≤ bs.getD j 0 ∧ bs.getD j 0 < 256 := fun j => by
    rw [List.getD_eq_getElem?_getD]
    cases hq : bs[j]? with
    | none => exact ⟨Int.le_refl _, by show (0 : Int) < _; omega⟩
    | some x => exact h x (List.mem_of_getElem? hq)
  unfold wordsN at hp
  obtain ⟨i, _, rfl⟩ := List.mem_map.1 hp
  have h0 := hg (4 * i)
  have h1 := hg (4 * i + 1)
  have h2 := hg (4 * i + 2)
  have h3 := hg (4 * i + 3)
  unfold wordN
  omega
theorem wordsN_at (bs : List Int) {i : Nat} (h : i < 16) : (u32s (wordsN bs))[i]? = some (.int .u32 (wordN bs i)) := by
  unfold u32s wordsN
  rw [List.map_map, List.getElem?_map, List.getElem?_range h]
  rfl
def PtrSt (w : World) (bs : List Int) (s : Nat) (wr : World) : Prop :=
  wr.heap[w.heap.size]? = some (.cells zeros16.toArray 97 (0, 0)) ∧ wr.heap[w.heap.size + 1]? = some (.cells (fill (u32s (wordsN bs)) zeros16 s).toArray 97 (0, 0)) ∧ Below w.heap.size w wr
set_option maxHeartbeats 2000000 in
set_option maxRecDepth 100000 in
theorem pointers_any {w : World} {v : Value} {bs : List Int} (hv : RowB w v bs) (hl : bs.length = 64) :
    Calls Tryd.prog 40 #[v] w fun e w' => e = .returned (.tuple #[.agg (u32s (wordsN bs)).toArray, .int .i64 0]) ∧ Below w.heap.size w w' := by
  obtain ⟨a, c, rfl, hc, hbx, hr⟩ := hv
  obtain ⟨g, o, rfl, hg, hcell⟩ := hr (by omega)
  have hat : ∀ j, j < 64 → bs[j]? = some (bs.getD j 0) ∧ 0 ≤ bs.getD j 0 ∧ bs.getD j 0 < 256 := fun j hj => by
    have h : bs[j]? = some bs[j] := List.getElem?_eq_getElem (by omega)
    have e : bs.getD j 0 = bs[j] := by rw [List.getD_eq_getElem?_getD, h]; rfl
    rw [e]
    exact ⟨h, hbx _ (List.getElem_mem _)⟩
  have HCELL := Lib.hid hcell; have HAT := Lib.hid hat
  rw [hl] at hc ⊢
  have hcI : (64 : Int) ≤ (c : Int) := by omega
  clear hcell hat hbx hr hl
  go_enter Tryd.func40, Tryd.ntmps40
  go_wp2_with fail
  have ST : Hid (PtrSt w bs 0 ((w.alloc (.cells #[.int .u32 0, .int .u32 0, .int .u32 0, .int .u32 0, .int .u32 0, .int .u32 0, .int .u32 0, .int .u32 0, .int .u32 0, .int .u32 0, .int .u32 0, .int .u32 0, .int .u32 0, .int .u32 0, .int .u32 0, .int .u32 0] 97)).alloc (.cells #[.int .u32 0, .int .u32 0, .int .u32 0, .int .u32 0, .int .u32 0, .int .u32 0, .int .u32 0, .int .u32 0, .int .u32 0, .int .u32 0, .int .u32 0, .int .u32 0, .int .u32 0, .int .u32 0, .int .u32 0, .int .u32 0] 97))) :=
    Lib.hid ⟨blk_old (blk_new rfl), by rw [fill_zero]; exact blk_new (by simp), ((Below.refl _ w).alloc (Nat.le_refl _) _).alloc (by simp) _⟩
  generalize ((w.alloc (.cells #[.int .u32 0, .int .u32 0, .int .u32 0, .int .u32 0, .int .u32 0, .int .u32 0, .int .u32 0, .int .u32 0, .int .u32 0, .int .u32 0, .int .u32 0, .int .u32 0, .int .u32 0, .int .u32 0, .int .u32 0, .int .u32 0] 97)).alloc (.cells #[.int .u32 0, .int .u32 0, .int .u32 0, .int .u32 0, .int .u32 0, .int .u32 0, .int .u32 0, .int .u32 0, .int .u32 0, .int .u32 0, .int .u32 0, .int .u32 0, .int .u32 0, .int .u32 0, .int .u32 0, .int .u32 0] 97)) = w0 at ST ⊢
  go_loopw [10] (fun idx wr => ∃ s : Nat, s ≤ 16 ∧ idx = .int .i64 s ∧ PtrSt w bs s wr) (fun idx _ => 16 - (RowKit.intOf idx).toNat)
  case atStart => exact ⟨0, by omega, rfl, ST.out⟩
  case round =>
    obtain ⟨s, hs, rfl, hst⟩ := hrel
    clear ST
    have HS := Lib.hid hst
    clear hst
    by_cases hs9 : s < 16
    · have hcl : ∀ j, j < 64 → wr.cell? ⟨g, o + j, none⟩ = some (.int .u8 (bs.getD j 0)) := fun j hj => (HS.out.2.2.cell (p := ⟨g, o + j, none⟩) hg).trans (HCELL.out j _ (HAT.out j hj).1)
      have HG := Lib.hid (get_four (bs.getD (4 * s) 0) (bs.getD (4 * s + 1) 0) (bs.getD (4 * s + 2) 0) (bs.getD (4 * s + 3) 0) g (o + 4 * s) (c - 4 * s) wr (hcl (4 * s) (by omega)) (hcl (4 * s + 1) (by omega)) (hcl (4 * s + 2) (by omega)) (hcl (4 * s + 3) (by omega)) (HAT.out _ (by omega)).2 (HAT.out _ (by omega)).2 (HAT.out _ (by omega)).2 (HAT.out _ (by omega)).2)
      have hw0 : 0 ≤ wordN bs s ∧ wordN bs s < 4294967296 := by
        have h0 := (HAT.out (4 * s) (by omega)).2
        have h1 := (HAT.out (4 * s + 1) (by omega)).2
        have h2 := (HAT.out (4 * s + 2) (by omega)).2
        have h3 := (HAT.out (4 * s + 3) (by omega)).2
        unfold wordN
        omega
      have e0 : bs.getD (4 * s) 0 + 256 * bs.getD (4 * s + 1) 0 + 65536 * bs.getD (4 * s + 2) 0 + 16777216 * bs.getD (4 * s + 3) 0 = wordN bs s := rfl
      rw [e0] at HG
      have hwrap : IntKind.u32.wrap (wordN bs s) = wordN bs s := by rw [show IntKind.u32.wrap (wordN bs s) = wordN bs s % 4294967296 by simp [IntKind.wrap, IntKind.bits, IntKind.signed]]; omega
      obtain ⟨z, hz⟩ : ∃ z, z = wordN bs s := ⟨_, rfl⟩
      rw [← hz] at HG hwrap
      have HZ := Lib.hid hz
      have b0 : (0 : Int) ≤ (s : Int) := by omega
      have b1 : (s : Int) < 16 := by omega
      have b2 : 4 * (s : Int) ≤ 60 := by omega
      have b3 : (4 * (s : Int)).toNat = 4 * s := by omega
      have b4 : (4 * (s : Int) + 4).toNat = 4 * s + 4 := by omega
      clear hcl hw0 e0 hz
      go_wp2_with fail
      refine HG.out.mono ?_
      rintro e w1 ⟨rfl, rfl⟩
      have hr1 := HS.out.1; have hp1 := HS.out.2.1; have hbel := HS.out.2.2
      have hfl : (fill (u32s (wordsN bs)) zeros16 s).length = 16 := fill_length _ _ _ rfl
      obtain ⟨u, hu⟩ : ∃ u, (fill (u32s (wordsN bs)) zeros16 s).toArray[s]? = some u := ⟨_, Array.getElem?_eq_getElem (by rw [List.size_toArray, hfl]; exact hs9)⟩
      have hcell := cell_blk_some hp1 hu
      have hfz := free_blk (i := s) hp1
      have hP1 := Lib.hid hp1; have hR1 := Lib.hid hr1; have HB := Lib.hid hbel
      clear hr1 hp1 hbel hu hfl HS HG
      go_wp2_with fail
      go_roundw
      case rel =>
        refine ⟨s + 1, by omega, by go_num, blk_set_other hR1.out (by show w.heap.size ≠ w.heap.size + 1; omega) _, ?_, HB.out.setCell (by show w.heap.size ≤ w.heap.size + 1; omega) _⟩
        have h1 := blk_set (i := s) hP1.out (.int .u32 z)
        rw [fill_set (u32s (wordsN bs)) zeros16 s rfl (by show s < 16; exact hs9) _ (by rw [wordsN_at bs hs9, HZ.out])] at h1
        exact h1
      case measure => simp only [RowKit.intOf]; omega
    · obtain rfl : s = 16 := by omega
      have h2 := HS.out.2.1
      rw [show fill (u32s (wordsN bs)) zeros16 16 = u32s (wordsN bs) from fill_all (u32s (wordsN bs)) zeros16 rfl] at h2
      have H2 := Lib.hid h2; have H1 := Lib.hid HS.out.1
      clear h2
      go_wp2_with (first
        | (refine wpList_load_row rfl 97 _ rfl _ rfl 97 _ _ _ H2.out Tryd.underlying97 rfl (by kernel_rfl) ?_)
        | (refine wpList_store_row rfl 97 _ _ rfl w.heap.size (u32s (wordsN bs)).toArray rfl rfl 97 _ H1.out (by kernel_rfl) rfl (by unfold u32s wordsN; rw [List.all_toArray, List.all_map]; rfl) ?_))
      have h3 := setRow_heap _ _ _ (u32s (wordsN bs)).toArray _ _ H1.out
      refine bodyPost_ret (results_row_tmp rfl _ _ w.heap.size _ _ _ _ rfl h3 Tryd.underlying97 rfl (by kernel_rfl)) rfl ?_
      refine ⟨rfl, ?_⟩
      have hb := HS.out.2.2
      exact ⟨hb.os, hb.tape, hb.output, by rw [setRow_size]; exact hb.size, fun b hb' => by rw [setRow_other _ _ _ _ (by omega)]; exact hb.block b hb'⟩
end Go.Proofs.YtklamgijikcnaaaDoor
