/- Walks of file's child, of inode's get, put. -/
/- Walk of inode's Pointers. -/
/- Walks of inode's put, Block; of file's Block. -/
/- Walks of inode's Block, of file's Block. -/
import Derived.Test.YtklamgijikcnaaaDoorF33
namespace Go.Proofs.YtklamgijikcnaaaDoor
open Go.RowKit

set_option maxHeartbeats 2000000 in
set_option maxRecDepth 100000 in
theorem child_meta {n : Int} (hn : n ∈ metasN) (s : Nat) (hs : s < 16) {w : World} (S : SpanAt w) :
    Calls Tryd.prog 39 #[.int .i64 n, .int .i64 s] w fun e w' => e = .returned (.tuple #[.int .i64 ((childN n s).getD 0), .bool (childN n s).isSome]) ∧ ∃ k, w' = w.drewN k := by
  obtain ⟨h1, h2, h3⟩ := metas_find n hn
  obtain ⟨hneg, _⟩ := metasN_neg n hn
  obtain ⟨l, f, hlf⟩ : ∃ l f, findN n = some (l, f) := by
    cases hq : findN n with
    | none => rw [hq] at h1; cases h1
    | some v => exact ⟨v.1, v.2, rfl⟩
  obtain ⟨e1, e2⟩ := lvl_of hlf
  obtain ⟨f0, f1, _, _, _, _⟩ := findN_bd hlf
  have hch : childN n s = if 600 ≤ f + s * wideN (l - 1) then none else if l = 1 then some (f + s * wideN (l - 1)) else some (-(f + s * wideN (l - 1)) - ((l : Int) - 2)) := by
    unfold childN
    rw [if_neg (by omega), e1, e2]
  rw [e1] at h2 h3
  have q0 : (n == 600) = false := beq_eq_false_iff_ne.2 (by omega)
  have hL := Lib.hid (level_ok hlf S)
  have hC := Lib.hid (fun k => covers_ok hlf (S.drewN k))
  have i0 : ∀ w, (Instr.index 123 (.agg #[.int .i64 0, .int .i64 1, .int .i64 16, .int .i64 256]) (.int .i64 l)).run Tryd.prog w = .ok (.int .i64 (wideN (l - 1))) w := by
    have : l = 1 ∨ l = 2 ∨ l = 3 := by omega
    rcases this with rfl | rfl | rfl <;> exact fun _ => by kernel_rfl
  have hq := wideN_bd (l - 1)
  have hw4 : (s : Int) * wideN (l - 1) ≤ 15 * 4096 := Int.mul_le_mul (by omega) hq.2 (by omega) (by omega)
  have hw0 : 0 ≤ (s : Int) * wideN (l - 1) := Int.mul_nonneg (by omega) (by omega)
  have hcase : ∃ c b, (childN n s).getD 0 = c ∧ (childN n s).isSome = b ∧ (600 ≤ f + (s : Int) * wideN (l - 1) ∧ c = 0 ∧ b = false ∨ f + (s : Int) * wideN (l - 1) < 600 ∧ l = 1 ∧ c = f + (s : Int) * wideN (l - 1) ∧ b = true ∨ f + (s : Int) * wideN (l - 1) < 600 ∧ 2 ≤ l ∧ c = -(f + (s : Int) * wideN (l - 1)) - ((l : Int) - 2) ∧ b = true) := by
    rw [hch]
    by_cases h6 : 600 ≤ f + (s : Int) * wideN (l - 1)
    · rw [if_pos h6]; exact ⟨_, _, rfl, rfl, .inl ⟨h6, rfl, rfl⟩⟩
    · rw [if_neg h6]
      by_cases hl : l = 1
      · rw [if_pos hl]; exact ⟨_, _, rfl, rfl, .inr (.inl ⟨by omega, hl, rfl, rfl⟩)⟩
      · rw [if_neg hl]; exact ⟨_, _, rfl, rfl, .inr (.inr ⟨by omega, by omega, rfl, rfl⟩)⟩
  obtain ⟨c, b, hc1, hc2, hcase⟩ := hcase
  rw [hc1, hc2]
  generalize wideN (l - 1) = q at *
  have HC := Lib.hid hcase
  clear hch h1 e1 e2 hlf hn S hq hc1 hc2 hcase
  go_enter Tryd.func39, Tryd.ntmps39
  go_wp2_with fail
  refine hL.out.mono ?_
  rintro e w1 ⟨rfl, k, rfl⟩
  go_wp2_with fail
  refine (hC.out k).mono ?_
  rintro e w2 ⟨rfl, k2, rfl⟩
  rcases HC.out with ⟨h6, rfl, rfl⟩ | ⟨h6, rfl, rfl, rfl⟩ | ⟨h6, hl, rfl, rfl⟩
  · go_wp2_with fail
    all_goals
      go_ret2
      exact ⟨rfl, _, rfl⟩
  · have h6' : decide (600 ≤ f + (s : Int) * q) = false := by simpa using h6
    go_wp2_with fail
    all_goals
      go_ret2
      exact ⟨rfl, _, rfl⟩
  · have h6' : decide (600 ≤ f + (s : Int) * q) = false := by simpa using h6
    have q1 : ((l : Int) == 1) = false := beq_eq_false_iff_ne.2 (by omega)
    have l0 : (2 : Int) ≤ (l : Int) := by omega
    have l1 : (l : Int) ≤ 3 := by omega
    go_wp2_with fail
    all_goals
      go_ret2
      exact ⟨rfl, _, rfl⟩
theorem or64 (i : Nat) (y x : Int) (hy0 : 0 ≤ y) (hy : y < 2 ^ i) (hx0 : 0 ≤ x) (hx : x % 2 ^ i = 0) (hx1 : x < 4294967296) (hy1 : y < 4294967296) : bits .or .i64 y x = y + x := by
  have e : (2 : Int) ^ 63 = 9223372036854775808 := by decide
  exact bits_join_low .i64 63 (by decide) (fun n h0 h1 => IntWalk.i64_in _ (by omega)) i y x hy0 hy (by omega) hx0 hx (by omega)
theorem or_four (x0 x1 x2 x3 : Int) (h0 : 0 ≤ x0 ∧ x0 < 256) (h1 : 0 ≤ x1 ∧ x1 < 256) (h2 : 0 ≤ x2 ∧ x2 < 256) (h3 : 0 ≤ x3 ∧ x3 < 256) :
    bits .or .i64 (bits .or .i64 (bits .or .i64 (bits .or .i64 0 x0) (x1 * 256)) (x2 * 65536)) (x3 * 16777216) = x0 + 256 * x1 + 65536 * x2 + 16777216 * x3 := by
  have p0 : (2 : Int) ^ 0 = 1 := rfl
  have p8 : (2 : Int) ^ 8 = 256 := rfl
  have p16 : (2 : Int) ^ 16 = 65536 := rfl
  have p24 : (2 : Int) ^ 24 = 16777216 := rfl
  rw [or64 0 0 x0 (by omega) (by omega) (by omega) (by omega) (by omega) (by omega), or64 8 _ (x1 * 256) (by omega) (by omega) (by omega) (by omega) (by omega) (by omega), or64 16 _ (x2 * 65536) (by omega) (by omega) (by omega) (by omega) (by omega) (by omega), or64 24 _ (x3 * 16777216) (by omega) (by omega) (by omega) (by omega) (by omega) (by omega)]
  omega
theorem get_four (x0 x1 x2 x3 : Int) (g o c : Nat) (w : World) (c0 : w.cell? ⟨g, o, none⟩ = some (.int .u8 x0)) (c1 : w.cell? ⟨g, o + 1, none⟩ = some (.int .u8 x1)) (c2 : w.cell? ⟨g, o + 2, none⟩ = some (.int .u8 x2)) (c3 : w.cell? ⟨g, o + 3, none⟩ = some (.int .u8 x3))
    (h0 : 0 ≤ x0 ∧ x0 < 256) (h1 : 0 ≤ x1 ∧ x1 < 256) (h2 : 0 ≤ x2 ∧ x2 < 256) (h3 : 0 ≤ x3 ∧ x3 < 256) :
    Calls Tryd.prog 61 #[.slice (some ⟨g, o, none⟩) 4 c] w fun e w' => e = .returned (.int .i64 (x0 + 256 * x1 + 65536 * x2 + 16777216 * x3)) ∧ w' = w := by
  go_enter Tryd.func61, Tryd.ntmps61
  go_wp2_with fail
  refine wp_loop_rounds 5 ?_
  rw [rounds_succ]
  go_wp2_with fail
  rw [rounds_succ]
  go_wp2_with fail
  rw [rounds_succ]
  go_wp2_with fail
  rw [rounds_succ]
  go_wp2_with fail
  rw [rounds_succ]
  go_wp2_with fail
  go_ret
  exact ⟨congrArg (fun z => Ending.returned (Value.int .i64 z)) (or_four x0 x1 x2 x3 h0 h1 h2 h3), rfl⟩
end Go.Proofs.YtklamgijikcnaaaDoor

namespace Go.Proofs.YtklamgijikcnaaaDoor
open Go.RowKit

/-- The slice v reads as the bytes l. -/
def RowB (w : World) (v : Value) (l : List Int) : Prop :=
  ∃ a c, v = .slice a l.length c ∧ l.length ≤ c ∧ (∀ x ∈ l, 0 ≤ x ∧ x < 256) ∧ (0 < l.length → ∃ g o, a = some ⟨g, o, none⟩ ∧ g < w.heap.size ∧ ∀ (j : Nat) x, l[j]? = some x → w.cell? ⟨g, o + j, none⟩ = some (.int .u8 x))
theorem RowB.shape {w : World} {v : Value} {l : List Int} (h : RowB w v l) : ∃ a c, v = .slice a l.length c := by
  obtain ⟨a, c, rfl, _⟩ := h
  exact ⟨a, c, rfl⟩
theorem RowB.below {w w' : World} {v : Value} {l : List Int} (h : RowB w v l) (hb : Below w.heap.size w w') : RowB w' v l := by
  obtain ⟨a, c, rfl, hc, hx, hr⟩ := h
  refine ⟨a, c, rfl, hc, hx, fun h0 => ?_⟩
  obtain ⟨g, o, rfl, hg, hcell⟩ := hr h0
  exact ⟨g, o, rfl, Nat.lt_of_lt_of_le hg hb.size, fun j x hj => (hb.cell (p := ⟨g, o + j, none⟩) hg).trans (hcell j x hj)⟩
def wordN (bs : List Int) (i : Nat) : Int := bs.getD (4 * i) 0 + 256 * bs.getD (4 * i + 1) 0 + 65536 * bs.getD (4 * i + 2) 0 + 16777216 * bs.getD (4 * i + 3) 0
def wordsN (bs : List Int) : List Int := (List.range 16).map (wordN bs)
def u32s (l : List Int) : List Value := l.map (Value.int .u32)
def zeros16 : List Value := List.replicate 16 (.int .u32 0)
theorem wordsN_bd {bs : List Int} (h : ∀ x ∈ bs, 0 ≤ x ∧ x < 256) : ∀ p ∈ wordsN bs, 0 ≤ p ∧ p < 4294967296 := fun p hp => by
  have hg : ∀ j, 0 ≤ bs.getD j 0 ∧ bs.getD j 0 < 256 := fun j => by
    rw [List.getD_eq_getElem?_getD]
    cases hq : bs[j]? with
    | none => exact ⟨Int.le_refl _, by show (0 : Int) < _; omega⟩
    | some x => exact h x (List.mem_of_getElem? hq)
  unfold wordsN at hp
  obtain ⟨i, _, rfl⟩ := List.mem_map.1 hp
  have h0 := hg (4 * i)
  have h1 := hg (4 * i + 1)
  have h2 := hg (4 * i + 2)
  have h3 := hg (4 * i + 3)
  unfold wordN
  omega
theorem wordsN_at (bs : List Int) {i : Nat} (h : i < 16) : (u32s (wordsN bs))[i]? = some (.int .u32 (wordN bs i)) := by
  unfold u32s wordsN
  rw [List.map_map, List.getElem?_map, List.getElem?_range h]
  rfl
def PtrSt (w : World) (bs : List Int) (s : Nat) (wr : World) : Prop :=
  wr.heap[w.heap.size]? = some (.cells zeros16.toArray 97 (0, 0)) ∧ wr.heap[w.heap.size + 1]? = some (.cells (fill (u32s (wordsN bs)) zeros16 s).toArray 97 (0, 0)) ∧ Below w.heap.size w wr
set_option maxHeartbeats 2000000 in
set_option maxRecDepth 100000 in
theorem pointers_any {w : World} {v : Value} {bs : List Int} (hv : RowB w v bs) (hl : bs.length = 64) :
    Calls Tryd.prog 40 #[v] w fun e w' => e = .returned (.tuple #[.agg (u32s (wordsN bs)).toArray, .int .i64 0]) ∧ Below w.heap.size w w' := by
  obtain ⟨a, c, rfl, hc, hbx, hr⟩ := hv
  obtain ⟨g, o, rfl, hg, hcell⟩ := hr (by omega)
  have hat : ∀ j, j < 64 → bs[j]? = some (bs.getD j 0) ∧ 0 ≤ bs.getD j 0 ∧ bs.getD j 0 < 256 := fun j hj => by
    have h : bs[j]? = some bs[j] := List.getElem?_eq_getElem (by omega)
    have e : bs.getD j 0 = bs[j] := by rw [List.getD_eq_getElem?_getD, h]; rfl
    rw [e]
    exact ⟨h, hbx _ (List.getElem_mem _)⟩
  have HCELL := Lib.hid hcell; have HAT := Lib.hid hat
  rw [hl] at hc ⊢
  have hcI : (64 : Int) ≤ (c : Int) := by omega
  clear hcell hat hbx hr hl
  go_enter Tryd.func40, Tryd.ntmps40
  go_wp2_with fail
  have ST : Hid (PtrSt w bs 0 ((w.alloc (.cells #[.int .u32 0, .int .u32 0, .int .u32 0, .int .u32 0, .int .u32 0, .int .u32 0, .int .u32 0, .int .u32 0, .int .u32 0, .int .u32 0, .int .u32 0, .int .u32 0, .int .u32 0, .int .u32 0, .int .u32 0, .int .u32 0] 97)).alloc (.cells #[.int .u32 0, .int .u32 0, .int .u32 0, .int .u32 0, .int .u32 0, .int .u32 0, .int .u32 0, .int .u32 0, .int .u32 0, .int .u32 0, .int .u32 0, .int .u32 0, .int .u32 0, .int .u32 0, .int .u32 0, .int .u32 0] 97))) :=
    Lib.hid ⟨blk_old (blk_new rfl), by rw [fill_zero]; exact blk_new (by simp), ((Below.refl _ w).alloc (Nat.le_refl _) _).alloc (by simp) _⟩
  generalize ((w.alloc (.cells #[.int .u32 0, .int .u32 0, .int .u32 0, .int .u32 0, .int .u32 0, .int .u32 0, .int .u32 0, .int .u32 0, .int .u32 0, .int .u32 0, .int .u32 0, .int .u32 0, .int .u32 0, .int .u32 0, .int .u32 0, .int .u32 0] 97)).alloc (.cells #[.int .u32 0, .int .u32 0, .int .u32 0, .int .u32 0, .int .u32 0, .int .u32 0, .int .u32 0, .int .u32 0, .int .u32 0, .int .u32 0, .int .u32 0, .int .u32 0, .int .u32 0, .int .u32 0, .int .u32 0, .int .u32 0] 97)) = w0 at ST ⊢
  go_loopw [10] (fun idx wr => ∃ s : Nat, s ≤ 16 ∧ idx = .int .i64 s ∧ PtrSt w bs s wr) (fun idx _ => 16 - (RowKit.intOf idx).toNat)
  case atStart => exact ⟨0, by omega, rfl, ST.out⟩
  case round =>
    obtain ⟨s, hs, rfl, hst⟩ := hrel
    clear ST
    have HS := Lib.hid hst
    clear hst
    by_cases hs9 : s < 16
    · have hcl : ∀ j, j < 64 → wr.cell? ⟨g, o + j, none⟩ = some (.int .u8 (bs.getD j 0)) := fun j hj => (HS.out.2.2.cell (p := ⟨g, o + j, none⟩) hg).trans (HCELL.out j _ (HAT.out j hj).1)
      have HG := Lib.hid (get_four (bs.getD (4 * s) 0) (bs.getD (4 * s + 1) 0) (bs.getD (4 * s + 2) 0) (bs.getD (4 * s + 3) 0) g (o + 4 * s) (c - 4 * s) wr (hcl (4 * s) (by omega)) (hcl (4 * s + 1) (by omega)) (hcl (4 * s + 2) (by omega)) (hcl (4 * s + 3) (by omega)) (HAT.out _ (by omega)).2 (HAT.out _ (by omega)).2 (HAT.out _ (by omega)).2 (HAT.out _ (by omega)).2)
      have hw0 : 0 ≤ wordN bs s ∧ wordN bs s < 4294967296 := by
        have h0 := (HAT.out (4 * s) (by omega)).2
        have h1 := (HAT.out (4 * s + 1) (by omega)).2
        have h2 := (HAT.out (4 * s + 2) (by omega)).2
        have h3 := (HAT.out (4 * s + 3) (by omega)).2
        unfold wordN
        omega
      have e0 : bs.getD (4 * s) 0 + 256 * bs.getD (4 * s + 1) 0 + 65536 * bs.getD (4 * s + 2) 0 + 16777216 * bs.getD (4 * s + 3) 0 = wordN bs s := rfl
      rw [e0] at HG
      have hwrap : IntKind.u32.wrap (wordN bs s) = wordN bs s := by rw [show IntKind.u32.wrap (wordN bs s) = wordN bs s % 4294967296 by simp [IntKind.wrap, IntKind.bits, IntKind.signed]]; omega
      obtain ⟨z, hz⟩ : ∃ z, z = wordN bs s := ⟨_, rfl⟩
      rw [← hz] at HG hwrap
      have HZ := Lib.hid hz
      have b0 : (0 : Int) ≤ (s : Int) := by omega
      have b1 : (s : Int) < 16 := by omega
      have b2 : 4 * (s : Int) ≤ 60 := by omega
      have b3 : (4 * (s : Int)).toNat = 4 * s := by omega
      have b4 : (4 * (s : Int) + 4).toNat = 4 * s + 4 := by omega
      clear hcl hw0 e0 hz
      go_wp2_with fail
      refine HG.out.mono ?_
      rintro e w1 ⟨rfl, rfl⟩
      have hr1 := HS.out.1; have hp1 := HS.out.2.1; have hbel := HS.out.2.2
      have hfl : (fill (u32s (wordsN bs)) zeros16 s).length = 16 := fill_length _ _ _ rfl
      obtain ⟨u, hu⟩ : ∃ u, (fill (u32s (wordsN bs)) zeros16 s).toArray[s]? = some u := ⟨_, Array.getElem?_eq_getElem (by rw [List.size_toArray, hfl]; exact hs9)⟩
      have hcell := cell_blk_some hp1 hu
      have hfz := free_blk (i := s) hp1
      have hP1 := Lib.hid hp1; have hR1 := Lib.hid hr1; have HB := Lib.hid hbel
      clear hr1 hp1 hbel hu hfl HS HG
      go_wp2_with fail
      go_roundw
      case rel =>
        refine ⟨s + 1, by omega, by go_num, blk_set_other hR1.out (by show w.heap.size ≠ w.heap.size + 1; omega) _, ?_, HB.out.setCell (by show w.heap.size ≤ w.heap.size + 1; omega) _⟩
        have h1 := blk_set (i := s) hP1.out (.int .u32 z)
        rw [fill_set (u32s (wordsN bs)) zeros16 s rfl (by show s < 16; exact hs9) _ (by rw [wordsN_at bs hs9, HZ.out])] at h1
        exact h1
      case measure => simp only [RowKit.intOf]; omega
    · obtain rfl : s = 16 := by omega
      have h2 := HS.out.2.1
      rw [show fill (u32s (wordsN bs)) zeros16 16 = u32s (wordsN bs) from fill_all (u32s (wordsN bs)) zeros16 rfl] at h2
      have H2 := Lib.hid h2; have H1 := Lib.hid HS.out.1
      clear h2
      go_wp2_with (first
        | (refine wpList_load_row rfl 97 _ rfl _ rfl 97 _ _ _ H2.out Tryd.underlying97 rfl (by kernel_rfl) ?_)
        | (refine wpList_store_row rfl 97 _ _ rfl w.heap.size (u32s (wordsN bs)).toArray rfl rfl 97 _ H1.out (by kernel_rfl) rfl (by unfold u32s wordsN; rw [List.all_toArray, List.all_map]; rfl) ?_))
      have h3 := setRow_heap _ _ _ (u32s (wordsN bs)).toArray _ _ H1.out
      refine bodyPost_ret (results_row_tmp rfl _ _ w.heap.size _ _ _ _ rfl h3 Tryd.underlying97 rfl (by kernel_rfl)) rfl ?_
      refine ⟨rfl, ?_⟩
      have hb := HS.out.2.2
      exact ⟨hb.os, hb.tape, hb.output, by rw [setRow_size]; exact hb.size, fun b hb' => by rw [setRow_other _ _ _ _ (by omega)]; exact hb.block b hb'⟩
end Go.Proofs.YtklamgijikcnaaaDoor

namespace Go.Proofs.YtklamgijikcnaaaDoor
open Go.RowKit

theorem elByte : ElT Tryd.prog 57 5 1 1 (.int .u8 0) := ⟨Tryd.underlying57, by kernel_rfl, by kernel_rfl, by decide⟩
def u8s (l : List Int) : List Value := l.map (Value.int .u8)
theorem u8s_length (l : List Int) : (u8s l).length = l.length * 1 := by unfold u8s; rw [List.length_map, Nat.mul_one]
theorem u8s_one (l : List Int) : ∀ u ∈ u8s l, u.oneCell' = true := fun u hu => by
  obtain ⟨_, _, rfl⟩ := List.mem_map.1 hu
  rfl
def OwnB (w : World) (B : Nat) (v : Value) (l : List Int) : Prop := w.ownsRow B 5 1 v l.length (u8s l)
theorem OwnB.nil (w : World) (B : Nat) : OwnB w B (.slice none 0 0) [] := ⟨rfl, .inl ⟨rfl, rfl⟩⟩
theorem OwnB.shape {w : World} {B : Nat} {v : Value} {l : List Int} (h : OwnB w B v l) : ∃ a c, v = .slice a l.length c := own_shape h
def fourN (n : Int) : List Int := [n % 256, n / 256 % 256, n / 65536 % 256, n / 16777216 % 256]
/-- While a number's bytes are put behind. -/
structure PutSt (w : World) (B : Nat) (v : Value) (l : List Int) (v' : Value) (wr : World) : Prop where
  own : OwnB wr B v' l
  fr : Fr (fun y => v.ownBlock = some y) w wr
  of : ∀ g, v'.ownBlock = some g → v.ownBlock = some g ∨ w.heap.size ≤ g
theorem PutSt.push {w wr w1 : World} {B : Nat} {v v' v1 : Value} {l : List Int} {x : Int} {k : Nat} (h : PutSt w B v l v' wr) (ho : w1.ownsRow B 5 1 v1 k (u8s l ++ [.int .u8 x])) (hk : k = l.length + 1) (hf : Fr (fun y => v'.ownBlock = some y) (wr.alloc (.cells #[.int .u8 x] 5)) w1) (hv : v1.ownBlock = v'.ownBlock ∨ v1.ownBlock = some (wr.heap.size + 1)) : PutSt w B v (l ++ [x]) v1 w1 := by
  have hz := h.fr.size
  refine ⟨?_, (h.fr.alloc _).trans' hf fun g hg hS => (h.of g hS).resolve_right (by omega), fun g hg => ?_⟩
  · unfold OwnB
    rw [List.length_append, List.length_singleton, ← hk, show u8s (l ++ [x]) = u8s l ++ [.int .u8 x] from List.map_append]
    exact ho
  · rcases hv with e | e
    · rw [e] at hg; exact h.of g hg
    · rw [e] at hg
      injection hg with hg
      rw [← hg]
      right
      omega
theorem srcOne (w : World) (x : Int) : SrcG 1 (w.alloc (.cells #[.int .u8 x] 5)) (.slice (some ⟨w.heap.size, 0, none⟩) 1 1) 1 [.int .u8 x] :=
  SrcG.block (blk_new rfl) rfl (fun u hu => by rw [List.mem_singleton] at hu; rw [hu]; rfl)
theorem PutSt.alloc {w wr : World} {B : Nat} {v v' : Value} {l : List Int} (h : PutSt w B v l v' wr) (x : Int) : (wr.alloc (.cells #[.int .u8 x] 5)).ownsRow B 5 1 v' l.length (u8s l) :=
  own_frame h.own (S := fun _ => False) ((Fr.refl _ wr).alloc _) fun _ _ => id
set_option maxHeartbeats 4000000 in
set_option maxRecDepth 100000 in
theorem put_four {w : World} {B : Nat} {v : Value} {l : List Int} (hown : OwnB w B v l) (n : Int) (h0 : 0 ≤ n) (h1 : n < 4294967296) (hl : l.length ≤ 1000) (hB : B ≤ w.heap.size) :
    Calls Tryd.prog 62 #[v, .int .i64 n, .int .i64 4] w fun e w' => ∃ v', e = .returned v' ∧ OwnB w' B v' (l ++ fourN n) ∧ Fr (fun y => v.ownBlock = some y) w w' ∧ ∀ g, v'.ownBlock = some g → v.ownBlock = some g ∨ w.heap.size ≤ g := by
  have P0 : Hid (PutSt w B v l v w) := Lib.hid ⟨hown, Fr.refl _ _, fun g hg => .inl hg⟩
  clear hown
  go_enter Tryd.func62, Tryd.ntmps62
  go_wp2_with fail
  refine wp_loop_rounds 5 ?_
  rw [rounds_succ]
  go_wp2_with (refine wpList_append_g (by rfl) (.tmp 12) (.tmp 18) (by rfl) elByte (by rfl) (P0.out.alloc _) (by rfl) (srcOne _ _) (by unfold maxLen; omega) (by omega) (Nat.le_trans hB ((P0.out.fr.alloc _).size)) ?_)
  intro v1 w1 ho1 hf1 hv1
  have P1 := Lib.hid (P0.out.push ho1 (by simp) hf1 hv1)
  clear ho1 hf1 hv1
  go_wp2_with fail
  rw [rounds_succ]
  go_wp2_with (refine wpList_append_g (by rfl) (.tmp 12) (.tmp 18) (by rfl) elByte (by rfl) (P1.out.alloc _) (by rfl) (srcOne _ _) (by unfold maxLen; simp; omega) (by simp; omega) (Nat.le_trans hB ((P1.out.fr.alloc _).size)) ?_)
  intro v2 w2 ho2 hf2 hv2
  have p2 : PutSt w B v (l ++ [n % 256, n / 256 % 256]) v2 w2 := by
    have := P1.out.push ho2 (by simp) hf2 hv2
    rw [List.append_assoc] at this
    exact this
  have P2 := Lib.hid p2
  clear ho2 hf2 hv2 p2
  go_wp2_with fail
  rw [rounds_succ]
  go_wp2_with (refine wpList_append_g (by rfl) (.tmp 12) (.tmp 18) (by rfl) elByte (by rfl) (P2.out.alloc _) (by rfl) (srcOne _ _) (by unfold maxLen; simp; omega) (by simp; omega) (Nat.le_trans hB ((P2.out.fr.alloc _).size)) ?_)
  intro v3 w3 ho3 hf3 hv3
  have p3 : PutSt w B v (l ++ [n % 256, n / 256 % 256, n / 65536 % 256]) v3 w3 := by
    have := P2.out.push ho3 (by simp) hf3 hv3
    rw [List.append_assoc] at this
    exact this
  have P3 := Lib.hid p3
  clear ho3 hf3 hv3 p3
  go_wp2_with fail
  rw [rounds_succ]
  go_wp2_with (refine wpList_append_g (by rfl) (.tmp 12) (.tmp 18) (by rfl) elByte (by rfl) (P3.out.alloc _) (by rfl) (srcOne _ _) (by unfold maxLen; simp; omega) (by simp; omega) (Nat.le_trans hB ((P3.out.fr.alloc _).size)) ?_)
  intro v4 w4 ho4 hf4 hv4
  have p4 : PutSt w B v (l ++ [n % 256, n / 256 % 256, n / 65536 % 256, n / 16777216 % 256]) v4 w4 := by
    have := P3.out.push ho4 (by simp) hf4 hv4
    rw [show n / 16777216 = n / 16777216 % 256 by omega] at this
    rw [List.append_assoc] at this
    exact this
  have P4 := Lib.hid p4
  clear ho4 hf4 hv4 p4
  go_wp2_with fail
  rw [rounds_succ]
  go_wp2_with fail
  go_ret
  have h4 := P4.out
  exact ⟨v4, rfl, h4.own, h4.fr, h4.of⟩
end Go.Proofs.YtklamgijikcnaaaDoor

namespace Go.Proofs.YtklamgijikcnaaaDoor
open Go.RowKit

theorem run_index_u32 (ws : List Int) (hl : ws.length = 16) (s : Nat) (hs : s < 16) (w : World) :
    (Instr.index 97 (.agg (u32s ws).toArray) (.int .i64 s)).run Tryd.prog w = .ok (.int .u32 (ws.getD s 0)) w := by
  have h1 : (u32s ws)[s]? = some (.int .u32 (ws.getD s 0)) := by
    unfold u32s
    rw [List.getElem?_map, List.getD_eq_getElem?_getD, List.getElem?_eq_getElem (by omega)]
    rfl
  have hs0 : (0 : Int) ≤ (s : Int) := by omega
  obtain ⟨i0, hi, hz0, hz1, hz2⟩ := info_parts (P := Tryd.prog) (e := 54) (z := .int .u32 0) (size := 1) (bytes := 4) (by kernel_rfl)
  unfold Instr.index
  simp [asIntOf, run_underlying Tryd.underlying97, hs0, sizeOf, typeInfo, hi, hz1, part, h1]
  intro h
  omega
theorem clipB_any (a : Option Addr) (n c : Nat) (hn : n ≤ c) (w : World) :
    Calls Tryd.prog 63 #[.slice a n c] w fun e w' => e = .returned (.slice a n n) ∧ w' = w := by
  have m1 : (n : Int) ≤ (c : Int) := by omega
  have m2 : (0 : Int) ≤ (n : Int) := by omega
  go_enter Tryd.func63, Tryd.ntmps63
  go_wp2_with fail
  go_ret
  exact ⟨rfl, rfl⟩
def bytesN (ws : List Int) : List Int := ws.flatMap fourN
theorem bytesN_length : ∀ ws : List Int, (bytesN ws).length = 4 * ws.length
  | [] => rfl
  | x :: ws => by unfold bytesN; rw [List.flatMap_cons, List.length_append]; have := bytesN_length ws; unfold bytesN at this; rw [this, List.length_cons]; simp [fourN]; omega
theorem bytesN_bd (ws : List Int) : ∀ x ∈ bytesN ws, 0 ≤ x ∧ x < 256 := fun x hx => by
  unfold bytesN at hx
  obtain ⟨y, _, hy⟩ := List.mem_flatMap.1 hx
  simp only [fourN, List.mem_cons, List.not_mem_nil, or_false] at hy
  omega
theorem bytesN_snoc (ws : List Int) (x : Int) : bytesN (ws ++ [x]) = bytesN ws ++ fourN x := by unfold bytesN; rw [List.flatMap_append, List.flatMap_singleton]
theorem OwnB.rowB {w : World} {B : Nat} {a : Option Addr} {c : Nat} {l : List Int} (h : OwnB w B (.slice a l.length c) l) (hb : ∀ x ∈ l, 0 ≤ x ∧ x < 256) {c' : Nat} (hc' : l.length ≤ c') : RowB w (.slice a l.length c') l := by
  refine ⟨a, c', rfl, hc', hb, fun h0 => ?_⟩
  obtain ⟨g, c2, he, _, _, hg, hcell⟩ := own_cells h h0
  injection he with h1 _ _
  subst h1
  refine ⟨g, 0, rfl, hg, fun j x hj => ?_⟩
  rw [Nat.zero_add]
  exact hcell j _ (by unfold u8s; rw [List.getElem?_map, hj]; rfl)
structure IbSt (w : World) (ws : List Int) (s : Nat) (v : Value) (wr : World) : Prop where
  own : OwnB wr w.heap.size v (bytesN (ws.take s))
  bel : Below w.heap.size w wr
set_option maxHeartbeats 2000000 in
set_option maxRecDepth 100000 in
theorem iblock_any (ws : List Int) (hl : ws.length = 16) (hb : ∀ x ∈ ws, 0 ≤ x ∧ x < 4294967296) (w : World) :
    Calls Tryd.prog 41 #[.agg (u32s ws).toArray] w fun e w' => ∃ v, e = .returned v ∧ RowB w' v (bytesN ws) ∧ Below w.heap.size w w' := by
  have HI := Lib.hid (run_index_u32 ws hl)
  have HBD := Lib.hid hb; have HL := Lib.hid hl
  have hsz : (u32s ws).toArray.size = 16 := by unfold u32s; simp [hl]
  have HSZ := Lib.hid hsz
  clear hl hb hsz
  generalize hcs : (u32s ws).toArray = cs at *
  clear hcs
  go_enter Tryd.func41, Tryd.ntmps41
  have hbx : (w.alloc (.cells cs 97)).heap[w.heap.size]? = some (.cells cs 97 (0, 0)) := blk_new rfl
  have HBX := Lib.hid hbx
  have ST : Hid (IbSt w ws 0 (.slice none 0 0) (w.alloc (.cells cs 97))) := Lib.hid ⟨OwnB.nil _ _, (Below.refl _ w).alloc (Nat.le_refl _) _⟩
  clear hbx
  go_wp2_with (refine wpList_load_row rfl 97 _ rfl _ rfl 97 _ _ _ HBX.out Tryd.underlying97 rfl (by rw [HSZ.out]; kernel_rfl) ?_)
  generalize w.alloc (.cells cs 97) = w0 at ST ⊢
  clear HBX
  go_loopw [3, 7] (fun v idx wr => ∃ s : Nat, s ≤ 16 ∧ idx = .int .i64 s ∧ IbSt w ws s v wr) (fun _ idx _ => 16 - (RowKit.intOf idx).toNat)
  case atStart => exact ⟨0, by omega, rfl, ST.out⟩
  case round =>
    obtain ⟨s, hs, rfl, hst⟩ := hrel
    clear ST
    have HS := Lib.hid hst
    clear hst
    by_cases hs9 : s < 16
    · have hi0 := HI.out s hs9
      obtain ⟨x, hx⟩ : ∃ x, ws[s]? = some x := ⟨_, List.getElem?_eq_getElem (by rw [HL.out]; exact hs9)⟩
      have hxd : ws.getD s 0 = x := by rw [List.getD_eq_getElem?_getD, hx]; rfl
      rw [hxd] at hi0
      obtain ⟨hx0, hx1⟩ := HBD.out x (List.mem_of_getElem? hx)
      have HX := Lib.hid hx
      have hlb : (bytesN (ws.take s)).length ≤ 1000 := by rw [bytesN_length, List.length_take]; omega
      have HP := Lib.hid (put_four HS.out.own x hx0 hx1 hlb HS.out.bel.size)
      have b0 : (0 : Int) ≤ (s : Int) := by omega
      have b1 : (s : Int) < 16 := by omega
      clear hx hxd hlb
      go_wp2_with fail
      refine HP.out.mono ?_
      rintro e w1 ⟨v1, rfl, ho1, hf1, _⟩
      have S1 : Hid (IbSt w ws (s + 1) v1 w1) := Lib.hid ⟨by rw [take_at HX.out, bytesN_snoc]; exact ho1, HS.out.bel.trans (hf1.toBelow (B := w.heap.size) HS.out.bel.size fun g hg => (HS.out.own.lt g hg).1)⟩
      clear ho1 hf1 HP HS
      go_wp2_with fail
      go_roundw
      case rel => exact ⟨s + 1, by omega, by go_num, S1.out⟩
      case measure => simp only [RowKit.intOf]; omega
    · obtain rfl : s = 16 := by omega
      have ho := HS.out.own
      rw [show ws.take 16 = ws by rw [← HL.out]; exact List.take_length] at ho
      obtain ⟨a, c, rfl⟩ := ho.shape
      have hlc : (bytesN ws).length ≤ c := by
        rcases ho.2 with ⟨h1, h2⟩ | ⟨g, cap, cur, h1, _, _, h2, _⟩
        · injection h1 with _ _ h3; omega
        · injection h1 with _ _ h3; omega
      have HRB := Lib.hid (ho.rowB (bytesN_bd ws) (Nat.le_refl _)); have HB := Lib.hid HS.out.bel
      have HCL := Lib.hid (clipB_any a (bytesN ws).length c hlc wr)
      clear ho hlc HS
      go_wp2_with fail
      refine HCL.out.mono ?_
      rintro e w1 ⟨rfl, rfl⟩
      go_wp2_with fail
      go_ret
      exact ⟨_, rfl, HRB.out, HB.out⟩
/-- The pointers of a block of pointers. -/
def ptrsN (d : Int → Int) (m : MM) (n : Int) : List Int := (List.range 16).map fun s => match childN n s with | some c => adr d m c | none => 0
theorem ptrsN_at (d : Int → Int) (m : MM) (n : Int) {s : Nat} (h : s < 16) : (ptrsN d m n)[s]? = some (match childN n s with | some c => adr d m c | none => 0) := by
  unfold ptrsN
  rw [List.getElem?_map, List.getElem?_range h]
  rfl
theorem fill_same {l z : List Value} {s : Nat} {u : Value} (h1 : l[s]? = some u) (h2 : z[s]? = some u) : fill l z (s + 1) = fill l z s := by
  unfold fill
  obtain ⟨hz, e⟩ := List.getElem?_eq_some_iff.1 h2
  rw [take_at h1, List.append_assoc, List.drop_eq_getElem_cons hz, e]
  rfl
def BkSt (w : World) (bs : List Int) (s : Nat) (wr : World) : Prop := wr.heap[w.heap.size]? = some (.cells (fill (u32s bs) zeros16 s).toArray 97 (0, 0)) ∧ Below w.heap.size w wr
set_option maxHeartbeats 2000000 in
set_option maxRecDepth 100000 in
/-- Block of one that is there. -/
theorem block_there {w : World} {fb : Nat} {d : Int → Int} {m : MM} {F : Nat → Prop} {n : Int} (hF : FAt w fb d m F) (hI : Inv d m) (hn : (m n).isSome = true) (hb : ∀ c, 0 ≤ adr d m c ∧ adr d m c < 4096) :
    Calls Tryd.prog 22 #[.pointer (some ⟨fb, 0, none⟩), .int .i64 n] w fun e w' => ∃ v, e = .returned (.tuple #[v, .int .i64 0]) ∧ RowB w' v (bytesN (ptrsN d m n)) ∧ Below w.heap.size w w' := by
  obtain ⟨db, mb, P, hin, hft⟩ := hF.ex
  obtain ⟨⟨a, u⟩, hm⟩ := Option.isSome_iff_exists.1 hn
  have hmem := hI.metas hn
  have c1 := cell_blk_some hin.top (i := 1) rfl
  have lk := hin.lookM n
  obtain ⟨b, hpb, _⟩ := hin.at hm
  rw [hpb] at lk
  have HF := Lib.hid hF; have HI := Lib.hid hI; have HM := Lib.hid hmem; have HBD := Lib.hid hb
  clear hF hI hn hb hm hin hft hpb hmem
  go_enter Tryd.func22, Tryd.ntmps22
  go_wp2_with fail
  have ST : Hid (BkSt w (ptrsN d m n) 0 (w.alloc (.cells #[.int .u32 0, .int .u32 0, .int .u32 0, .int .u32 0, .int .u32 0, .int .u32 0, .int .u32 0, .int .u32 0, .int .u32 0, .int .u32 0, .int .u32 0, .int .u32 0, .int .u32 0, .int .u32 0, .int .u32 0, .int .u32 0] 97))) := Lib.hid ⟨by rw [fill_zero]; exact blk_new rfl, (Below.refl _ w).alloc (Nat.le_refl _) _⟩
  generalize (w.alloc (.cells #[.int .u32 0, .int .u32 0, .int .u32 0, .int .u32 0, .int .u32 0, .int .u32 0, .int .u32 0, .int .u32 0, .int .u32 0, .int .u32 0, .int .u32 0, .int .u32 0, .int .u32 0, .int .u32 0, .int .u32 0, .int .u32 0] 97)) = w0 at ST ⊢
  clear c1 lk
  go_loopw [17] (fun idx wr => ∃ s : Nat, s ≤ 16 ∧ idx = .int .i64 s ∧ BkSt w (ptrsN d m n) s wr) (fun idx _ => 16 - (RowKit.intOf idx).toNat)
  case atStart => exact ⟨0, by omega, rfl, ST.out⟩
  case round =>
    obtain ⟨s, hs, rfl, hst⟩ := hrel
    clear ST
    have HS := Lib.hid hst
    clear hst
    by_cases hs9 : s < 16
    · have hFr := HF.out.below (HS.out.2)
      have HC := Lib.hid (child_meta HM.out s hs9 hFr.span)
      have HFR := Lib.hid hFr
      have hat := ptrsN_at d m n hs9
      have b0 : (0 : Int) ≤ (s : Int) := by omega
      have b1 : (s : Int) < 16 := by omega
      obtain ⟨o, ho⟩ : ∃ o, o = childN n s := ⟨_, rfl⟩
      rw [← ho] at HC hat
      clear hFr ho
      have hfl : (fill (u32s (ptrsN d m n)) zeros16 s).length = 16 := fill_length _ _ _ rfl
      obtain ⟨u, hu⟩ : ∃ u, (fill (u32s (ptrsN d m n)) zeros16 s).toArray[s]? = some u := ⟨_, Array.getElem?_eq_getElem (by rw [List.size_toArray, hfl]; exact hs9)⟩
      have HU := Lib.hid hu
      clear hu hfl
      cases o with
      | none =>
        have S1 : Hid (BkSt w (ptrsN d m n) (s + 1) wr) := Lib.hid (by
          have h1 := HS.out.1
          unfold BkSt
          rw [fill_same (u := .int .u32 0) (by unfold u32s; rw [List.getElem?_map, hat]; rfl) (by unfold zeros16; rw [List.getElem?_replicate, if_pos hs9])]
          exact HS.out)
        have S2 : Hid (∀ k, BkSt w (ptrsN d m n) (s + 1) (wr.drewN k)) := Lib.hid fun k => ⟨S1.out.1, below_drewN S1.out.2 k⟩
        clear hat HS S1
        go_wp2_with fail
        refine HC.out.mono ?_
        rintro e w1 ⟨rfl, k, rfl⟩
        clear HC
        go_wp2_with fail
        go_roundw
        case rel => exact ⟨s + 1, by omega, by go_num, S2.out k⟩
        case measure => simp only [RowKit.intOf]; omega
      | some ch =>
        have hP1 := HS.out.1
        have hcell := cell_blk_some hP1 HU.out
        have hfz := free_blk (i := s) hP1
        obtain ⟨a, ha⟩ : ∃ a, a = adr d m ch := ⟨_, rfl⟩
        have hab := HBD.out ch
        rw [← ha] at hab
        have hwrap : IntKind.u32.wrap a = a := by rw [show IntKind.u32.wrap a = a % 4294967296 by simp [IntKind.wrap, IntKind.bits, IntKind.signed]]; omega
        have HG : Hid (∀ k, Calls Tryd.prog 16 #[.pointer (some ⟨fb, 0, none⟩), .int .i64 ch] (wr.drewN k) fun e w' => e = .returned (.int .i64 a) ∧ w' = wr.drewN k) := Lib.hid fun k => by
          rw [ha]
          exact get_any (HFR.out.below (below_drewN (Below.refl _ wr) k)) HI.out ch
        have HA := Lib.hid ha; have HAT := Lib.hid hat; have HP := Lib.hid hP1
        clear hat ha hab hP1
        go_wp2_with fail
        refine HC.out.mono ?_
        rintro e w1 ⟨rfl, k, rfl⟩
        clear HC
        go_wp2_with fail
        refine (HG.out k).mono ?_
        rintro e w2 ⟨rfl, rfl⟩
        go_wp2_with fail
        go_roundw
        case rel =>
          refine ⟨s + 1, by omega, by go_num, ?_, (below_drewN HS.out.2 k).setCell (Nat.le_refl _) _⟩
          have h1 := blk_set (w := wr.drewN k) (i := s) HP.out (.int .u32 a)
          rw [fill_set (u32s (ptrsN d m n)) zeros16 s rfl (by show s < 16; exact hs9) _ (by unfold u32s; rw [List.getElem?_map, HAT.out, HA.out]; rfl)] at h1
          exact h1
        case measure => simp only [RowKit.intOf]; omega
    · obtain rfl : s = 16 := by omega
      have h2 := HS.out.1
      rw [show fill (u32s (ptrsN d m n)) zeros16 16 = u32s (ptrsN d m n) from fill_all (u32s (ptrsN d m n)) zeros16 rfl] at h2
      have H2 := Lib.hid h2
      have HB := Lib.hid (iblock_any (ptrsN d m n) (by unfold ptrsN; simp) (fun x hx => by
        unfold ptrsN at hx
        obtain ⟨s, _, rfl⟩ := List.mem_map.1 hx
        cases childN n s with
        | none => exact ⟨Int.le_refl _, by show (0 : Int) < _; omega⟩
        | some c => have := HBD.out c; exact ⟨this.1, by show adr d m c < _; omega⟩) wr)
      clear h2
      go_wp2_with (refine wpList_load_row rfl 97 _ rfl _ rfl 97 _ _ _ H2.out Tryd.underlying97 rfl (by kernel_rfl) ?_)
      refine HB.out.mono ?_
      rintro e w1 ⟨v, rfl, hr, hb⟩
      have RES := Lib.hid (And.intro hr (below_call HS.out.2 hb (Nat.le_refl _)))
      clear hr hb
      go_wp2_with fail
      go_ret2
      exact ⟨v, rfl, RES.out⟩
end Go.Proofs.YtklamgijikcnaaaDoor
