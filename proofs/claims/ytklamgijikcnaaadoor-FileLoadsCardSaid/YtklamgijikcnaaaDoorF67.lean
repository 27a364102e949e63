/- What Load tells is below the disk's end, plainly. -/
/- What an argument of the type []int is. -/
/- The reader of the statement FileLoads. -/
/- What an argument of the types [9]uint32, [][]byte is. -/
/- Walk of the statement FileLoads: it returns true. -/
import Derived.Test.YtklamgijikcnaaaDoorF62
import Derived.Test.YtklamgijikcnaaaDoorInts
import Derived.ChangeSlices
import Derived.WideShapes
import Derived.SizedLaws
import Derived.Test.YtklamgijikcnaaaDoorF64
import Derived.Test.YtklamgijikcnaaaDoorF41
import Derived.Lib.ConvBytes
import Derived.Test.YtklamgijikcnaaaDoorF23
import Derived.Deep.Slices
namespace Go.Proofs.YtklamgijikcnaaaDoor
open Go.RowKit

theorem eN_bd {rd : Int → Option (List Int)} (h8 : ∀ a bs, rd a = some bs → ∀ x ∈ bs, 0 ≤ x ∧ x < 256) : ∀ (f : Nat) (n a : Int), 0 ≤ a → gN rd f n a = true → ∀ e ∈ eN rd f n a, 0 ≤ e.2 ∧ e.2 < 4096
  | 0, n, a, _, h, _, _ => by unfold gN at h; cases h
  | f + 1, n, a, h0, h, e, he => by
    have ha : a < 4096 := by
      by_cases q : a < 4096
      · exact q
      · rw [gN_great rd (by omega)] at h; cases h
    by_cases hn : 0 ≤ n
    · rw [eN_data rd hn, List.mem_singleton] at he
      rw [he]; exact ⟨h0, ha⟩
    · rw [gN_meta rd (by omega) ha] at h
      cases hr : rd a with
      | none => rw [hr] at h; cases h
      | some bs =>
        rw [hr] at h
        rw [Bool.and_eq_true, Bool.and_eq_true] at h
        rw [eN_meta rd (by omega) hr, List.mem_append, List.mem_singleton] at he
        rcases he with he | rfl
        · unfold rowE at he
          obtain ⟨s, hs, he⟩ := List.mem_flatMap.1 he
          have hok := rowOk_at h.2.2 (List.mem_range.1 hs)
          unfold eS at he
          unfold okS at hok
          split at he
          · cases he
          · rename_i hz
            rw [decide_eq_false hz, Bool.false_or] at hok
            cases hc : childN n s with
            | none => rw [hc] at he; cases he
            | some c =>
              rw [hc] at he hok
              refine eN_bd h8 f c _ ?_ hok e he
              have hw : (wordsN bs).getD s 0 ∈ wordsN bs := by
                rw [List.getD_eq_getElem?_getD, List.getElem?_eq_getElem (by unfold wordsN; simp; exact List.mem_range.1 hs)]
                exact List.getElem_mem _
              exact (wordsN_bd (h8 a bs hr) _ hw).1
        · exact ⟨h0, ha⟩
theorem rowE_bd {rd : Int → Option (List Int)} (h8 : ∀ a bs, rd a = some bs → ∀ x ∈ bs, 0 ≤ x ∧ x < 256) {f : Nat} {n : Int} {l : List Int} {k : Nat} (hl : ∀ p ∈ l, 0 ≤ p) (h : rowOk rd f n l k = true) : ∀ e ∈ rowE rd f n l k, 0 ≤ e.2 ∧ e.2 < 4096 := fun e he => by
  unfold rowE at he
  obtain ⟨s, hs, he⟩ := List.mem_flatMap.1 he
  have hok := rowOk_at h (List.mem_range.1 hs)
  unfold eS at he
  unfold okS at hok
  split at he
  · cases he
  · rename_i hz
    rw [decide_eq_false hz, Bool.false_or] at hok
    cases hc : childN n s with
    | none => rw [hc] at he; cases he
    | some c =>
      rw [hc] at he hok
      refine eN_bd h8 f c _ ?_ hok e he
      rw [List.getD_eq_getElem?_getD]
      cases hq : l[s]? with
      | none => exact Int.le_refl _
      | some p => exact hl p (List.mem_of_getElem? hq)
theorem applyE_bd : ∀ (E : List (Int × Int)) (a : Int → Int), (∀ e ∈ E, 0 ≤ e.2 ∧ e.2 < 4096) → (∀ c, 0 ≤ a c ∧ a c < 4096) → ∀ c, 0 ≤ applyE a E c ∧ applyE a E c < 4096
  | [], a, _, ha, c => ha c
  | e :: E, a, hE, ha, c => applyE_bd E (setD a e.1 e.2) (fun x hx => hE x (List.mem_cons_of_mem _ hx)) (fun c => by
      by_cases h : c = e.1
      · rw [h, setD_self]; exact hE e List.mem_cons_self
      · rw [setD_other h]; exact ha c) c
theorem rdZ_some {Z : List (Int × List Int)} (h : ∀ z ∈ Z, ∀ x ∈ z.2, 0 ≤ x ∧ x < 256) (a : Int) (bs : List Int) (hr : rdZ Z a = some bs) : ∀ x ∈ bs, 0 ≤ x ∧ x < 256 := fun x hx => rdZ_by8 (a := a) h x (by rw [hr]; exact hx)
end Go.Proofs.YtklamgijikcnaaaDoor

namespace Go.Proofs.YtklamgijikcnaaaDoor
open Go.RowKit Go.ChangeShapes Go.WideShapes Go.ChangeAt

theorem addr_of_cell {W : World} {a : Addr} {u : Value} (h : W.cell? (a.add 0) = some u) : ∃ g o, a = ⟨g, o, none⟩ ∧ g < W.heap.size := by
  obtain ⟨g, o, sp⟩ := a
  have e0 : (⟨g, o, sp⟩ : Addr).add 0 = ⟨g, o, sp⟩ := by simp [Addr.add]
  rw [e0] at h
  unfold World.cell? at h
  cases hg : W.heap[g]? with
  | none => simp [hg] at h
  | some ob =>
    have hlt := (Array.getElem?_eq_some_iff.1 hg).1
    cases sp with
    | none => exact ⟨g, o, rfl, hlt⟩
    | some s => cases ob <;> simp [hg] at h

set_option maxRecDepth 100000 in
theorem arg_ints {H : Type} {enc : TypeId × Value → H} {W : World} {base : Nat} {v : Value} {d : DataW H} {p : List MemPlace} (hval : Value.okWide Tryd.prog W .any base 22 v)
    (h : DataW.Trod enc Tryd.prog W 0 (fun _ => true) true 22 v d p) :
    ∃ xs : List Int, (∃ a c, v = .slice a xs.length c ∧ (0 < xs.length → ∃ g o, a = some ⟨g, o, none⟩ ∧ g < W.heap.size ∧ ∀ i, i < xs.length → W.cell? ⟨g, o + i, none⟩ = some (.int .i64 (xs.getD i 0)))) ∧
      (xs = [] ∨ ∃ elems spare, d = .slice elems spare ∧ elems.length = xs.length) := by
  obtain ⟨a1, len, cap, rfl⟩ := okWide_slice Tryd.underlying22 hval
  obtain ⟨fuel, hf⟩ := h
  rcases open_ints Tryd.underlying22 Tryd.underlying3 (by kernel_rfl) hf with ⟨hcs, _⟩ | ⟨a, len', cap', zs, hcs, _, hl, _, hz, hx, hcell, _⟩
  · simp [Value.cells] at hcs
    obtain ⟨rfl, rfl, rfl⟩ := hcs
    exact ⟨[], ⟨_, _, rfl, fun h => by simp at h⟩, .inl rfl⟩
  · simp [Value.cells] at hcs
    obtain ⟨rfl, rfl, rfl⟩ := hcs
    simp only [if_true] at hz
    have hlen : (zs.take len).length = len := by rw [List.length_take]; omega
    refine ⟨zs.take len, ⟨some a, cap, by rw [hlen], fun h0 => ?_⟩, .inr ⟨_, _, (Prod.mk.inj hx).1, by simp [lits]⟩⟩
    rw [hlen] at h0
    obtain ⟨g, o, rfl, hg⟩ := addr_of_cell (hcell 0 (by omega))
    refine ⟨g, o, rfl, hg, fun i hi => ?_⟩
    rw [hlen] at hi
    have hadd : (⟨g, o, none⟩ : Addr).add i = ⟨g, o + i, none⟩ := by unfold Addr.add; split <;> simp_all
    have := hcell i (by omega)
    rw [hadd] at this
    rw [this, List.getD_eq_getElem?_getD, List.getD_eq_getElem?_getD, List.getElem?_take, if_pos hi]
set_option maxRecDepth 100000 in
theorem sized_ints {H : Type} {ts : List TypeId} {ds : List (DataW H)} {d : DataW H} {xs : List Int} {j : Nat} (h : (DataW.weightsEach Tryd.prog ts ds).all (· ≤ reachBytes) = true) (ht : ts[j]? = some 22) (hd : ds[j]? = some d)
    (hx : xs = [] ∨ ∃ elems spare, d = .slice elems spare ∧ elems.length = xs.length) : xs.length ≤ 1000000000000000000 := by
  rcases hx with rfl | ⟨el, sp, rfl, he⟩
  · simp
  · have h1 := sized_slice h ht hd Tryd.underlying22
    rw [show Program.bytesOf Tryd.prog 3 = 8 by kernel_rfl] at h1
    have h2 := reachBytes_lt
    rw [he] at h1
    omega
end Go.Proofs.YtklamgijikcnaaaDoor

namespace Go.Proofs.YtklamgijikcnaaaDoor
open Go.RowKit

theorem bytes_below (w : World) (e : TypeId) (s : ByteArray) : Below w.heap.size w (Lib.bytesWorld w e s) :=
  ⟨rfl, rfl, rfl, by rw [Lib.bytesWorld_size]; omega, fun b hb => Lib.bytesWorld_at_old w e s b hb⟩
theorem bytes_rowB (w : World) (bs : List Int) (h8 : ∀ x ∈ bs, 0 ≤ x ∧ x < 256) : RowB (Lib.bytesWorld w 5 (strOfNums bs)) (.slice (some ⟨w.heap.size, 0, none⟩) (strOfNums bs).size (grownCap w (strOfNums bs).size 0 5)) bs := by
  have hs := strOfNums_size bs
  rw [hs]
  refine ⟨_, _, rfl, grownCap_ge w bs.length 0 5, h8, fun h0 => ⟨w.heap.size, 0, rfl, by rw [Lib.bytesWorld_size]; omega, fun j x hj => ?_⟩⟩
  · obtain ⟨hjl, hjx⟩ := List.getElem?_eq_some_iff.1 hj
    have hx := h8 x (List.mem_of_getElem? hj)
    rw [Nat.zero_add, Lib.bytesWorld_cell w _ _ j (by rw [hs]; exact hjl)]
    have hd : (strOfNums bs).data.toList.getD j 0 = UInt8.ofNat x.toNat := by
      rw [strOfNums_data, List.getD_eq_getElem?_getD, List.getElem?_map, hj]; rfl
    rw [hd, UInt8.toNat_ofNat', Nat.mod_eq_of_lt (by omega)]
    congr 2
    omega
/-- The law's two lists, in their variables. -/
structure TwoAt (w : World) (lb sb : Nat) (Z : List (Int × List Int)) : Prop where
  ex : ∃ lv sv, w.heap[lb]? = some (.cells #[lv] 63 (0, 0)) ∧ w.heap[sb]? = some (.cells #[sv] 64 (0, 0)) ∧ ZAt w lv sv Z
theorem TwoAt.below {w w' : World} {lb sb : Nat} {Z : List (Int × List Int)} (h : TwoAt w lb sb Z) (hb : Below w.heap.size w w') : TwoAt w' lb sb Z := by
  obtain ⟨lv, sv, h1, h2, h3⟩ := h.ex
  exact ⟨lv, sv, (hb.block _ (blk_lt h1)).trans h1, (hb.block _ (blk_lt h2)).trans h2, h3.below hb⟩
def LReadPost (Z : List (Int × List Int)) (p : Int) (w : World) (e : Ending) (w' : World) : Prop :=
  Below w.heap.size w w' ∧ match rdZ Z p with
    | none => ∃ v, e = .returned (.tuple #[v, .bool false])
    | some bs => ∃ v, e = .returned (.tuple #[v, .bool true]) ∧ RowB w' v bs
set_option maxHeartbeats 2000000 in
set_option maxRecDepth 100000 in
theorem lread_any {w : World} {lb sb : Nat} {Z : List (Int × List Int)} {p : Int} (h : TwoAt w lb sb Z) :
    Calls Tryd.prog 23 #[.int .i64 p, .pointer (some ⟨lb, 0, none⟩), .pointer (some ⟨sb, 0, none⟩)] w (LReadPost Z p w) := by
  obtain ⟨lv, sv, h1, h2, h3⟩ := h.ex
  obtain ⟨pa, pc, rfl⟩ := h3.pl.shape
  obtain ⟨sa, sc, rfl, -⟩ := h3.st
  simp only [List.length_map] at h1 h2 h3
  have HPL := Lib.hid h3.pl; have HST := Lib.hid h3.st; have H8 := Lib.hid h3.by8
  have hzl := h3.len
  have c1 := cell_blk_some h1 (i := 0) rfl
  have c2 := cell_blk_some h2 (i := 0) rfl
  clear h h1 h2 h3
  go_enter Tryd.func23, Tryd.ntmps23
  go_wp2_with fail
  go_loop [9] (fun i => ∃ k : Nat, k ≤ Z.length ∧ i = .int .i64 k ∧ ∀ z ∈ Z.take k, z.1 ≠ p) (fun i => Z.length - (RowKit.intOf i).toNat)
  case atStart => exact ⟨0, by omega, rfl, fun z hz => by simp at hz⟩
  case round =>
    obtain ⟨k, hk, rfl, hno⟩ := hrel
    have HNO := Lib.hid hno
    clear hno
    by_cases hk9 : k < Z.length
    · obtain ⟨z, hzk⟩ : ∃ z, Z[k]? = some z := ⟨_, List.getElem?_eq_getElem hk9⟩
      obtain ⟨g, rfl, -, hgc, hcell⟩ := HPL.out.at (by rw [List.length_map]; omega)
      obtain ⟨g2, rfl, -, hgc2, hcell2⟩ := HST.out.at (by rw [List.length_map]; omega)
      have k1 := (hcell k (0, z.1) (by rw [List.getElem?_map, hzk]; rfl)).2
      have k2 := hcell2 k z.2 (by rw [List.getElem?_map, hzk]; rfl)
      have b0 : (0 : Int) ≤ (k : Int) := by omega
      have b1 : (k : Int) < (Z.length : Int) := by omega
      have HZK := Lib.hid hzk
      have h8 := H8.out z (List.mem_of_getElem? hzk)
      have H8Z := Lib.hid h8
      clear hcell hcell2 hzk h8
      by_cases e : z.1 = p
      · have e1 : (z.1 == p) = true := by simp [e]
        have hrd : rdZ Z p = some z.2 := by
          unfold rdZ
          rw [← List.take_append_drop k Z, List.find?_append, List.find?_eq_none.2 (fun x hx => by simpa using HNO.out x hx)]
          obtain ⟨hl', rfl⟩ := List.getElem?_eq_some_iff.1 HZK.out
          rw [List.drop_eq_getElem_cons hl', List.find?_cons, e1]; rfl
        have HRD := Lib.hid hrd
        have hcv := Lib.run_convert_string_bytes (P := Tryd.prog) w 9 57 5 (strOfNums z.2) Tryd.underlying9 Tryd.underlying57 Tryd.underlying5
        have RES := Lib.hid (And.intro (bytes_below w 5 (strOfNums z.2)) (bytes_rowB w z.2 H8Z.out))
        clear hrd e
        generalize Lib.bytesWorld w 5 (strOfNums z.2) = wb at *
        go_wp2_with fail
        go_ret2
        unfold LReadPost
        rw [HRD.out]
        exact ⟨RES.out.1, _, rfl, RES.out.2⟩
      · have e1 : (z.1 == p) = false := by simp [e]
        have HE := Lib.hid e
        clear e
        go_wp2_with fail
        go_roundw
        case rel => exact ⟨k + 1, by omega, by go_num, fun q hq => by
          rw [take_at HZK.out] at hq
          rcases List.mem_append.1 hq with hq | hq
          · exact HNO.out q hq
          · rw [List.mem_singleton.1 hq]; exact HE.out⟩
        case measure => simp only [RowKit.intOf]; omega
    · obtain rfl : k = Z.length := by omega
      have hrd : rdZ Z p = none := by
        unfold rdZ
        rw [List.find?_eq_none.2 fun x hx => by simpa using HNO.out x (by rw [List.take_length]; exact hx)]; rfl
      have HRD := Lib.hid hrd
      clear hrd
      go_wp2_with fail
      go_ret2
      unfold LReadPost
      rw [HRD.out]
      exact ⟨Below.refl _ _, _, rfl⟩
theorem loads_reader {w0 : World} {lb sb : Nat} {Z : List (Int × List Int)} (h : TwoAt w0 lb sb Z) :
    Reader w0.heap.size (fun _ => False) (rdZ Z) 23 #[.pointer (some ⟨lb, 0, none⟩), .pointer (some ⟨sb, 0, none⟩)] (fun _ w => Below w0.heap.size w0 w) := by
  refine ⟨fun tr p w hj _ _ => ?_, fun args w => ?_, fun tr w w' S hj hf hS => ?_, fun x hx => hx.elim⟩
  · refine (lread_any (h.below hj)).mono ?_
    rintro e w' ⟨h1, h2⟩
    exact ⟨below_call hj h1 (Nat.le_refl _), Fr.below h1, h2⟩
  · kernel_rfl
  · exact hj.trans (hf.toBelow hj.size hS)
end Go.Proofs.YtklamgijikcnaaaDoor

namespace Go.Proofs.YtklamgijikcnaaaDoor
open Go.RowKit Go.ChangeShapes Go.WideShapes Go.ChangeAt Go.Deep

/-- An argument of the type [][]byte. -/
def ArgBB (W : World) (v : Value) (n : Nat) (V : Nat → Value) (B : Nat → List Int) : Prop :=
  ∃ a c, v = .slice a n c ∧ (0 < n → ∃ g o, a = some ⟨g, o, none⟩ ∧ g < W.heap.size ∧ ∀ i, i < n → W.cell? ⟨g, o + i, none⟩ = some (V i)) ∧ ∀ i, i < n → RowB W (V i) (B i)
theorem ArgI.below {W W' : World} {v : Value} {xs : List Int} (h : ArgI W v xs) (hb : Below W.heap.size W W') : ArgI W' v xs := by
  obtain ⟨a, c, rfl, hr⟩ := h
  refine ⟨a, c, rfl, fun h0 => ?_⟩
  obtain ⟨g, o, rfl, hg, hcell⟩ := hr h0
  exact ⟨g, o, rfl, Nat.lt_of_lt_of_le hg hb.size, fun i hi => (hb.cell (p := ⟨g, o + i, none⟩) hg).trans (hcell i hi)⟩
theorem ArgBB.below {W W' : World} {v : Value} {n : Nat} {V : Nat → Value} {B : Nat → List Int} (h : ArgBB W v n V B) (hb : Below W.heap.size W W') : ArgBB W' v n V B := by
  obtain ⟨a, c, rfl, hr, hB⟩ := h
  refine ⟨a, c, rfl, fun h0 => ?_, fun i hi => (hB i hi).below hb⟩
  obtain ⟨g, o, rfl, hg, hcell⟩ := hr h0
  exact ⟨g, o, rfl, Nat.lt_of_lt_of_le hg hb.size, fun i hi => (hb.cell (p := ⟨g, o + i, none⟩) hg).trans (hcell i hi)⟩
theorem wf_u8 {n : Int} (h : (Lit.int .u8 n).wf = true) : 0 ≤ n ∧ n < 256 := by
  have : 0 ≤ n ∧ n ≤ 255 := by simpa [Lit.wf, IntKind.min, IntKind.max, IntKind.signed, IntKind.bits] using h
  omega
section
variable {H : Type} {enc : TypeId × Value → H} {W : World}
set_option maxRecDepth 100000 in
theorem rowB_of_trod {v : Value} {n : Nat} {x : DataW H × List MemPlace} (h : DataW.trod enc Tryd.prog W 0 (fun _ => true) true n 57 [v] = some x) : ∃ bs, RowB W v bs := by
  rcases open_ints Tryd.underlying57 Tryd.underlying5 (by kernel_rfl) h with ⟨hcs, _⟩ | ⟨a, len, cap, zs, hcs, _, hl, _, hz, _, hcell, hwz⟩
  · obtain rfl : v = .slice none 0 0 := by simpa using hcs
    exact ⟨[], none, 0, rfl, by simp, fun x hx => by simp at hx, fun h => by simp at h⟩
  · obtain rfl : v = .slice (some a) len cap := by simpa using hcs
    simp only [if_true] at hz
    have hlen : (zs.take len).length = len := by rw [List.length_take]; omega
    refine ⟨zs.take len, some a, cap, by rw [hlen], by rw [hlen]; exact hl, fun x hx => wf_u8 (hwz x (List.mem_of_mem_take hx)), fun h0 => ?_⟩
    rw [hlen] at h0
    obtain ⟨g, o, rfl, hg⟩ := addr_of_cell (hcell 0 (by omega))
    refine ⟨g, o, rfl, hg, fun j x hj => ?_⟩
    have hjl := (List.getElem?_eq_some_iff.1 hj).1
    rw [hlen] at hjl
    have hadd : (⟨g, o, none⟩ : Addr).add j = ⟨g, o + j, none⟩ := by unfold Addr.add; split <;> simp_all
    have := hcell j (by omega)
    rw [hadd] at this
    rw [this]
    rw [List.getElem?_take_of_lt hjl] at hj
    rw [List.getD_eq_getElem?_getD, hj]; rfl
set_option maxRecDepth 100000 in
theorem arg_bb {base : Nat} {v : Value} {d : DataW H} {p : List MemPlace} (hval : Value.okWide Tryd.prog W .any base 62 v)
    (h : DataW.Trod enc Tryd.prog W 0 (fun _ => true) true 62 v d p) : ∃ n V B, ArgBB W v n V B := by
  obtain ⟨a1, len, cap, rfl⟩ := okWide_slice Tryd.underlying62 hval
  obtain ⟨fuel, hf⟩ := h
  rcases open_slice1 Tryd.underlying62 (by kernel_rfl) hf with ⟨hcs, _⟩ | ⟨a, len', cap', mm, n, V, D, Pl, hcs, _, hl, _, hmm, _, hx⟩
  · simp [Value.cells] at hcs
    obtain ⟨rfl, rfl, rfl⟩ := hcs
    exact ⟨0, fun _ => undef, fun _ => [], none, 0, rfl, fun h => by omega, fun i hi => by omega⟩
  · simp [Value.cells] at hcs
    obtain ⟨rfl, rfl, rfl⟩ := hcs
    simp only [if_true] at hmm
    obtain ⟨B, hB⟩ := choose_lt (n := len) (p := fun i bs => RowB W (V i) bs) fun i hi => rowB_of_trod (hx i (by omega)).2
    refine ⟨len, V, B, some a, cap, rfl, fun h0 => ?_, hB⟩
    obtain ⟨g, o, rfl, hg⟩ := addr_of_cell (hx 0 (by omega)).1
    refine ⟨g, o, rfl, hg, fun i hi => ?_⟩
    have hadd : (⟨g, o, none⟩ : Addr).add i = ⟨g, o + i, none⟩ := by unfold Addr.add; split <;> simp_all
    rw [← hadd]
    exact (hx i (by omega)).1
end
theorem cell_u32 {P : Program} {w : World} {r : Reach} {base : Nat} {t : TypeId} {v : Value} (ht : P.underlying t = some (.int .u32)) (h : Cell.okWide P w r base t v) : ∃ n, v = .int .u32 n ∧ 0 ≤ n ∧ n < 4294967296 := by
  simp only [Cell.okWide, ht] at h
  cases v <;> simp_all [Cell.ok, IntKind.has, IntKind.min, IntKind.max, IntKind.signed, IntKind.bits] <;> omega
theorem u32s_of : ∀ (l : List Value), (∀ (i : Nat) (x : Value), l[i]? = some x → ∃ n, x = Value.int .u32 n ∧ 0 ≤ n ∧ n < 4294967296) → ∃ ws : List Int, l = u32s ws ∧ ∀ p ∈ ws, 0 ≤ p ∧ p < 4294967296
  | [], _ => ⟨[], rfl, fun p hp => by simp at hp⟩
  | x :: l, h => by
    obtain ⟨ws, rfl, hw⟩ := u32s_of l fun i y hy => h (i + 1) y (by simpa using hy)
    obtain ⟨n, rfl, hn⟩ := h 0 x rfl
    exact ⟨n :: ws, rfl, fun p hp => by
      rcases List.mem_cons.1 hp with rfl | hp
      · exact hn
      · exact hw p hp⟩
set_option maxRecDepth 100000 in
/-- An argument of the type [9]uint32. -/
theorem arg_ptr {w : World} {r : Reach} {base : Nat} {v : Value} (h : Value.okWide Tryd.prog w r base 55 v) : ∃ ws : List Int, ws.length = 9 ∧ v = .agg (u32s ws).toArray ∧ ∀ p ∈ ws, 0 ≤ p ∧ p < 4294967296 := by
  have h' : ∃ cs, v = .agg cs ∧ cs.size = Tryd.prog.cellsOf 55 ∧ Row.okWide Tryd.prog w r base 55 cs := by
    simp only [Value.okWide, Tryd.underlying55] at h; exact h
  obtain ⟨cs, rfl, hc, ts', hts', _, hr⟩ := h'
  obtain rfl : ts' = List.replicate 9 54 := Option.some.inj (hts'.symm.trans (by kernel_rfl))
  have hc9 : cs.size = 9 := by rw [hc]; kernel_rfl
  obtain ⟨ws, hws, hb⟩ := u32s_of cs.toList fun i x hx => by
    obtain ⟨u', hu', ho⟩ := hr i x (by simpa using hx)
    have hi : i < 9 := by have := (List.getElem?_eq_some_iff.1 hx).1; rw [Array.length_toList, hc9] at this; exact this
    rw [List.length_replicate, Nat.mod_eq_of_lt hi, List.getElem?_replicate, if_pos hi] at hu'
    obtain rfl := Option.some.inj hu'
    exact cell_u32 Tryd.underlying54 ho
  refine ⟨ws, ?_, by rw [← hws], hb⟩
  have : cs.toList.length = 9 := by rw [Array.length_toList, hc9]
  rw [hws] at this
  unfold u32s at this
  rwa [List.length_map] at this
end Go.Proofs.YtklamgijikcnaaaDoor

namespace Go.Proofs.YtklamgijikcnaaaDoor
open Go.RowKit

theorem elStr : ElT Tryd.prog 64 9 1 16 (.string ⟨#[]⟩) := ⟨Tryd.underlying64, by kernel_rfl, by kernel_rfl, by decide⟩
def strs (S : List (List Int)) : List Value := S.map fun s => .string (strOfNums s)
def OwnS (w : World) (B : Nat) (v : Value) (S : List (List Int)) : Prop := w.ownsRow B 9 1 v S.length (strs S)
theorem OwnS.nil (w : World) (B : Nat) : OwnS w B (.slice none 0 0) [] := ⟨rfl, .inl ⟨rfl, rfl⟩⟩
theorem OwnS.below {w w' : World} {B : Nat} {v : Value} {S : List (List Int)} (h : OwnS w B v S) (hb : Below w.heap.size w w') : OwnS w' B v S := own_frame h (S := fun _ => False) (Fr.below hb) fun _ _ => id
theorem OwnS.shape {w : World} {B : Nat} {v : Value} {S : List (List Int)} (h : OwnS w B v S) : ∃ a c, v = .slice a S.length c := own_shape h
theorem OwnS.row {w : World} {B : Nat} {v : Value} {S : List (List Int)} (h : OwnS w B v S) : SRow w v S := by
  rcases h.2 with ⟨rfl, h0⟩ | ⟨g, cap, cur, rfl, _, hg, hc, _, _, ht⟩
  · obtain rfl := List.eq_nil_of_length_eq_zero h0
    exact ⟨none, 0, rfl, by simp, fun h => by simp at h⟩
  · refine ⟨_, cap, rfl, hc, fun h0 => ⟨g, rfl, fun j s hj => cell_blk_some hg ?_⟩⟩
    have hjl := (List.getElem?_eq_some_iff.1 hj).1
    have h1 : (List.take (S.length * 1) cur.toList)[j]? = (strs S)[j]? := by rw [ht]
    rw [List.getElem?_take_of_lt (by omega), Array.getElem?_toList] at h1
    rw [h1]
    unfold strs
    rw [List.getElem?_map, hj]; rfl
theorem OwnS.snoc {w : World} {B n : Nat} {v : Value} {S : List (List Int)} {s : List Int} (h : w.ownsRow B 9 1 v n (strs S ++ [.string (strOfNums s)])) (hn : n = S.length + 1) : OwnS w B v (S ++ [s]) := by
  unfold OwnS
  rw [List.length_append, List.length_singleton, ← hn, show strs (S ++ [s]) = strs S ++ [.string (strOfNums s)] from List.map_append]
  exact h
theorem srcS (w : World) (s : ByteArray) : SrcG 1 (w.alloc (.cells #[.string s] 9)) (.slice (some ⟨w.heap.size, 0, none⟩) 1 1) 1 [.string s] :=
  SrcG.block (blk_new rfl) rfl (fun u hu => by rw [List.mem_singleton] at hu; rw [hu]; rfl)
theorem own_apart {w : World} {B B' : Nat} {e e' : TypeId} {k k' n n' : Nat} {v v' : Value} {xs ys : List Value} (h : w.ownsRow B e k v n xs) (h' : w.ownsRow B' e' k' v' n' ys) (hne : e' ≠ e) : ∀ g, v'.ownBlock = some g → ¬ v.ownBlock = some g := fun g hg => by
  rcases h'.2 with ⟨rfl, _⟩ | ⟨g2, cap, cur, rfl, _, hb, _⟩
  · cases hg
  · injection hg with hg
    subst hg
    exact own_off h hb hne
/-- The two lists while they grow. -/
structure TwoOwn (w0 : World) (lb : Nat) (Z : List (Int × List Int)) (wr : World) : Prop where
  ex : ∃ lv sv, wr.heap[lb]? = some (.cells #[lv] 63 (0, 0)) ∧ wr.heap[lb + 1]? = some (.cells #[sv] 64 (0, 0)) ∧ OwnR wr (lb + 2) lv (Z.map fun z => (0, z.1)) ∧ OwnS wr (lb + 2) sv (Z.map (·.2))
  nd : (Z.map (·.1)).Nodup
  by8 : ∀ z ∈ Z, ∀ x ∈ z.2, 0 ≤ x ∧ x < 256
  bel : Below lb w0 wr
  low : w0.heap.size = lb
theorem TwoOwn.below {w0 wr w' : World} {lb : Nat} {Z : List (Int × List Int)} (h : TwoOwn w0 lb Z wr) (hb : Below wr.heap.size wr w') : TwoOwn w0 lb Z w' := by
  obtain ⟨lv, sv, h1, h2, h3, h4⟩ := h.ex
  exact ⟨⟨lv, sv, (hb.block _ (blk_lt h1)).trans h1, (hb.block _ (blk_lt h2)).trans h2, h3.below hb, h4.below hb⟩, h.nd, h.by8, below_call h.bel hb (by rw [h.low]; exact Nat.le_refl _), h.low⟩
theorem TwoOwn.at_ {w0 wr : World} {lb : Nat} {Z : List (Int × List Int)} (h : TwoOwn w0 lb Z wr) (hl : Z.length ≤ 20) : TwoAt wr lb (lb + 1) Z := by
  obtain ⟨lv, sv, h1, h2, h3, h4⟩ := h.ex
  exact ⟨⟨lv, sv, h1, h2, ⟨h3.row, h4.row, h.nd, h.by8, hl⟩⟩⟩
set_option maxHeartbeats 8000000 in
set_option maxRecDepth 100000 in
theorem lawLoads_any (ws : List Int) (hws : ws.length = 9) (hwb : ∀ p ∈ ws, 0 ≤ p ∧ p < 4294967296) (v1 v2 : Value) (xs : List Int) (n : Nat) (V : Nat → Value) (B : Nat → List Int) (W : World) (S : SpanAt W) (h1 : ArgI W v1 xs) (h2 : ArgBB W v2 n V B) :
    Calls Tryd.prog 8 #[.agg (u32s ws).toArray, v1, v2] W fun e w' => e = .returned (.bool true) ∧ Below W.heap.size W w' := by
  have HW9 := Lib.hid hws; have HWB := Lib.hid hwb
  have hsz : (u32s ws).toArray.size = 9 := by unfold u32s; simp [hws]
  have HSZ := Lib.hid hsz
  obtain ⟨cs, hcs⟩ : ∃ cs, cs = (u32s ws).toArray := ⟨_, rfl⟩
  rw [← hcs] at HSZ ⊢
  have HCS := Lib.hid hcs
  have hb0 : Below W.heap.size W (W.alloc (.cells cs 55)) := (Below.refl _ W).alloc (Nat.le_refl _) _
  have P0 : Hid ((W.alloc (.cells cs 55)).heap[W.heap.size]? = some (.cells cs 55 (0, 0))) := Lib.hid (blk_new rfl)
  have HB0 := Lib.hid hb0
  have HA := Lib.hid (awake_any (S.below hb0))
  have S0 := Lib.hid (S.below hb0)
  have X0 := Lib.hid (h1.below hb0); have Y0 := Lib.hid (h2.below hb0)
  obtain ⟨xa, xc, rfl, -⟩ := h1
  obtain ⟨ya, yc, rfl, -, -⟩ := h2
  clear hws hwb hsz hcs hb0 S
  by_cases hx20 : xs.length ≤ 20
  · by_cases hn20 : n ≤ 20
    · have q1 : decide ((20 : Int) < (xs.length : Int)) = false := decide_eq_false (by omega)
      have q2 : decide ((20 : Int) < (n : Int)) = false := decide_eq_false (by omega)
      go_enter Tryd.func8, Tryd.ntmps8
      go_wp2_with fail
      generalize W.alloc (.cells cs 55) = w0 at *
      refine HA.out.mono ?_
      rintro e w1 ⟨rfl, hb1⟩
      have HB1 := Lib.hid (below_call HB0.out hb1 (Nat.le_refl _))
      have P1 := Lib.hid ((hb1.block _ (blk_lt P0.out)).trans P0.out)
      have X1 := Lib.hid (X0.out.below hb1); have Y1 := Lib.hid (Y0.out.below hb1); have S1 := Lib.hid (S0.out.below hb1)
      clear hb1 HA HB0 P0 X0 Y0 S0
      go_wp2_with fail
      obtain ⟨lb, hlb⟩ : ∃ lb, lb = w1.heap.size := ⟨_, rfl⟩
      have ST : Hid (TwoOwn w1 lb [] ((w1.alloc (.cells #[.slice none 0 0] 63)).alloc (.cells #[.slice none 0 0] 64))) := Lib.hid
        ⟨⟨_, _, blk_old (blk_new hlb), blk_new (by rw [hlb]; simp), OwnR.nil _ _, OwnS.nil _ _⟩, List.nodup_nil, fun z hz => by simp at hz, by rw [hlb]; exact ((Below.refl _ w1).alloc (Nat.le_refl _) _).alloc (by simp) _, hlb.symm⟩
      rw [← hlb]
      generalize ((w1.alloc (.cells #[.slice none 0 0] 63)).alloc (.cells #[.slice none 0 0] 64)) = w2 at ST ⊢
      have HLB := Lib.hid hlb
      clear hlb
      go_loopw [9] (fun idx wr => ∃ (i : Nat) (Z : List (Int × List Int)), i ≤ xs.length ∧ i ≤ n ∧ idx = .int .i64 i ∧ Z.length = i ∧ TwoOwn w1 lb Z wr) (fun idx _ => xs.length - (RowKit.intOf idx).toNat)
      case atStart => exact ⟨0, [], by omega, by omega, rfl, rfl, ST.out⟩
      case round =>
        obtain ⟨i, Z, hi1, hi2, rfl, hzl, hst⟩ := hrel
        have HT := Lib.hid hst; have HZL := Lib.hid hzl
        clear hst hzl ST
        have hbw := HT.out.bel
        rw [HT.out.low.symm] at hbw
        have XR := Lib.hid (X1.out.below hbw); have YR := Lib.hid (Y1.out.below hbw)
        have BR := Lib.hid (below_call HB1.out hbw (Nat.le_refl _))
        have PR := Lib.hid ((hbw.block _ (blk_lt P1.out)).trans P1.out)
        have SR := Lib.hid (S1.out.below hbw)
        clear hbw
        have b0 : (0 : Int) ≤ (i : Int) := by omega
        by_cases hgo : i < xs.length ∧ i < n
        · obtain ⟨hix, hin⟩ := hgo
          have b1 : (i : Int) < (xs.length : Int) := by omega
          have b2 : (i : Int) < (n : Int) := by omega
          obtain ⟨xa', xc', he, hxr⟩ := X1.out
          obtain ⟨g, o, ha, hgl, hcx⟩ := hxr (by omega)
          injection he with he1 _ he3
          subst he1 he3
          subst ha
          obtain ⟨ya', yc', hey, hyr, hyb⟩ := Y1.out
          obtain ⟨g2, o2, ha2, hgl2, hcy⟩ := hyr (by omega)
          injection hey with hey1 _ hey3
          subst hey1 hey3
          subst ha2
          have k0 := hcx i hix
          have k1 := hcy i hin
          have hB := hyb i hin
          clear hxr hcx hyr hyb hcy
          generalize xs.getD i 0 = x at *
          generalize V i = vi at *
          generalize B i = bs at *
          have hB8 := hB
          obtain ⟨va, vc, rfl, -, hb8, -⟩ := hB8
          have HB8 := Lib.hid hb8
          have KX : Hid (∀ w', Below lb w1 w' → w'.cell? ⟨g, o + i, none⟩ = some (.int .i64 x)) := Lib.hid fun w' h => (h.cell (p := ⟨g, o + i, none⟩) (by rw [← HT.out.low]; exact hgl)).trans k0
          have KV : Hid (∀ w', Below lb w1 w' → w'.cell? ⟨g2, o2 + i, none⟩ = some (.slice va bs.length vc)) := Lib.hid fun w' h => (h.cell (p := ⟨g2, o2 + i, none⟩) (by rw [← HT.out.low]; exact hgl2)).trans k1
          have KB : Hid (∀ w', Below lb w1 w' → RowB w' (.slice va bs.length vc) bs) := Lib.hid fun w' h => hB.below (by rw [HT.out.low]; exact h)
          clear hB hb8 k0 k1 hgl hgl2
          have k0 := KX.out _ HT.out.bel
          have k1 := KV.out _ HT.out.bel
          by_cases h100 : bs.length ≤ 100
          · have q3 : decide ((100 : Int) < (bs.length : Int)) = false := decide_eq_false (by omega)
            obtain ⟨lv, sv, hlc, hsc, hor, hos⟩ := HT.out.ex
            obtain ⟨la, lc, rfl⟩ := hor.shape
            have cl := cell_blk_some hlc (i := 0) rfl
            have HOR := Lib.hid hor
            have hzz : (Z.map fun z => ((0 : Int), z.1)).length = i := by rw [List.length_map]; exact HZL.out
            rw [hzz] at cl
            clear hlc hsc hor hos hzz
            go_wp2_with fail
            have hrow := HOR.out.row
            clear cl
            generalize wr = wo at *
            go_loopw [49] (fun idx wr => ∃ j : Nat, j ≤ i ∧ idx = .int .i64 j ∧ (∀ z ∈ Z.take j, z.1 ≠ x) ∧ Below wo.heap.size wo wr) (fun idx _ => i - (RowKit.intOf idx).toNat)
            case atStart => exact ⟨0, by omega, rfl, fun z hz => by simp at hz, Below.refl _ _⟩
            case round =>
              obtain ⟨j, hj, rfl, hno, hbx⟩ := hrel
              have HNO := Lib.hid hno; have HBX := Lib.hid hbx
              clear hno hbx
              by_cases hji : j < i
              · obtain ⟨z, hz⟩ : ∃ z, Z[j]? = some z := ⟨_, List.getElem?_eq_getElem (by rw [HZL.out]; exact hji)⟩
                have hrw := hrow.below HBX.out
                obtain ⟨gl, hgla, -, -, hcell⟩ := hrw.at (by rw [List.length_map, HZL.out]; omega)
                subst hgla
                obtain ⟨r0, r1⟩ := hcell j (0, z.1) (by rw [List.getElem?_map, hz]; rfl)
                have c0 : 0 ≤ (j : Int) := by omega
                have c1 : (j : Int) < (i : Int) := by omega
                have HZJ := Lib.hid hz
                have d0 : (wr.alloc (.cells #[.int .i64 0, .int .i64 z.1] 65)).cell? ⟨wr.heap.size, 1, none⟩ = some (.int .i64 z.1) := cell_blk_some (blk_new rfl) rfl
                have hba : Below wo.heap.size wo (wr.alloc (.cells #[.int .i64 0, .int .i64 z.1] 65)) := HBX.out.alloc HBX.out.size _
                have kx := (hba.cell (p := ⟨g, o + i, none⟩) (block_lt_of_cell k0)).trans k0
                have HBA := Lib.hid hba
                have k1x := (HBX.out.cell (p := ⟨g, o + i, none⟩) (block_lt_of_cell k0)).trans k0
                clear hz hrw hcell hba
                by_cases e : z.1 = x
                · have e1 : (z.1 == x) = true := by simp [e]
                  clear e
                  go_wp2_with fail
                  go_quiet (fail)
                  have RES := Lib.hid (below_call BR.out (below_drewN (HBA.out) nq) (Nat.le_refl _))
                  go_wp2_with fail
                  go_ret
                  exact ⟨rfl, RES.out⟩
                · have e1 : (z.1 == x) = false := by simp [e]
                  have HE := Lib.hid e
                  clear e
                  go_wp2_with fail
                  go_quiet (fail)
                  have HBN := Lib.hid (below_drewN HBA.out nq)
                  go_wp2_with fail
                  go_roundw
                  case rel => exact ⟨j + 1, by omega, by go_num, fun q hq => by
                    rw [take_at HZJ.out] at hq
                    rcases List.mem_append.1 hq with hq | hq
                    · exact HNO.out q hq
                    · rw [List.mem_singleton.1 hq]; exact HE.out, HBN.out⟩
                  case measure => simp only [RowKit.intOf]; omega
              · obtain rfl : j = i := by omega
                have hnd : x ∉ Z.map (·.1) := fun hx => by
                  obtain ⟨z, hz, hzx⟩ := List.mem_map.1 hx
                  exact HNO.out z (by rw [← HZL.out, List.take_length]; exact hz) hzx
                have HND := Lib.hid hnd
                have T2 := HT.out.below HBX.out
                obtain ⟨lv2, sv2, hl2, hs2, hor2, hos2⟩ := T2.ex
                obtain ⟨la2, lc2, rfl⟩ := hor2.shape
                obtain ⟨sa2, sc2, rfl⟩ := hos2.shape
                have hz1 : (Z.map fun z => ((0 : Int), z.1)).length = j := by rw [List.length_map]; exact HZL.out
                have hz2 : (Z.map (·.2)).length = j := by rw [List.length_map]; exact HZL.out
                have e1 := cell_blk_some hl2 (i := 0) rfl
                rw [hz1] at e1
                have kx := (HBX.out.cell (p := ⟨g, o + j, none⟩) (block_lt_of_cell k0)).trans k0
                have F1 : Hid (∀ ob, Fr (fun _ => False) wr (wr.drew.alloc ob)) := Lib.hid fun ob => (Fr.refl _ wr).drew.alloc ob
                have e1A : ∀ ob, (wr.alloc ob).cell? ⟨lb, 0, none⟩ = some (.slice la2 j lc2) := fun ob => cell_blk_some (((F1.out ob).block lb (blk_lt hl2) id).trans hl2) (by rw [hz1]; rfl)
                have kxA : ∀ ob, (wr.alloc ob).cell? ⟨g, o + j, none⟩ = some (.int .i64 x) := fun ob => by
                  have hgl9 : g < wr.heap.size := block_lt_of_cell kx
                  unfold World.cell? at kx ⊢
                  rw [blk_old_eq hgl9]
                  exact kx
                have BY := Lib.hid HBX.out
                have HL2 := Lib.hid hl2; have HS2 := Lib.hid hs2; have HOR2 := Lib.hid hor2; have HOS2 := Lib.hid hos2; have TB := Lib.hid T2.bel
                have hlow := T2.low
                have HLOW := Lib.hid hlow
                have hlz : lb + 2 ≤ wr.heap.size := blk_lt hs2
                have K1 := Lib.hid k1; have K0 := Lib.hid k0
                rw [hz1] at HL2 HOR2
                rw [hz2] at HS2 HOS2
                clear hl2 hs2 hor2 hos2 T2 hlow k1 k0 hnd HNO hz1 hz2 HOR hrow
                go_wp2_with fail
                go_region_law
                  (refine step_append_g (by rfl) (.tmp 61) (.tmp 67) (by rfl) elRP (by rfl) (own_frame HOR2.out (F1.out _) fun _ _ => id) (by rfl) (srcP wr.drew 0 x) (by unfold maxLen; rw [List.length_map, HZL.out]; omega) (by rw [List.length_map, HZL.out]; omega) (Nat.le_trans hlz (F1.out _).size) ?_
                   intro v6 w6 ho6 hf6 hv6
                   obtain ⟨ga, gc, rfl⟩ := own_shape ho6
                   have h12 := ((F1.out _).mono fun _ _ => False.elim).trans hf6
                   have hl6 := (h12.block lb (blk_lt HL2.out) (fun e => by have := (HOR2.out.lt _ e).1; omega)).trans HL2.out
                   have s6 := cell_blk_some (i := 0) hl6 rfl
                   have f6 := free_blk (i := 0) hl6
                   have HL6 := Lib.hid hl6
                   have H12 := Lib.hid h12
                   have O6 := Lib.hid (OwnR.snoc (p := ((0 : Int), x)) ho6 rfl)
                   clear ho6 hf6 hv6 h12 hl6
                   dsimp only)
                all_goals
                  rw [HZL.out]
                  have hl7 := blk_set (i := 0) HL6.out (.slice ga (j + 1) gc)
                  have hs7 : (w6.setCell ⟨lb, 0, none⟩ (.slice ga (j + 1) gc)).heap[lb + 1]? = some (.cells #[.slice sa2 j sc2] 64 (0, 0)) := blk_set_other ((H12.out.block (lb + 1) (blk_lt HS2.out) (fun e => by have := (HOR2.out.lt _ e).1; omega)).trans HS2.out) (fun e => by have : lb + 1 = lb := e; omega) _
                  have B7 : Below lb w1 (w6.setCell ⟨lb, 0, none⟩ (.slice ga (j + 1) gc)) := (TB.out.trans (H12.out.toBelow (B := lb) (by omega) fun y hy => by have := (HOR2.out.lt _ hy).1; omega)).setCell (Nat.le_refl _) _
                  have O6' := O6.out
                  have S7 : OwnS (w6.setCell ⟨lb, 0, none⟩ (.slice ga (j + 1) gc)) (lb + 2) (.slice sa2 j sc2) (Z.map (·.2)) := own_set (own_frame HOS2.out H12.out (own_apart HOR2.out HOS2.out (by decide))) (fun e => by have q : lb + 2 ≤ lb := (HOS2.out.lt _ e).1; omega) _
                  rw [List.length_map, HZL.out] at O6'
                  have O7 : OwnR (w6.setCell ⟨lb, 0, none⟩ (.slice ga (j + 1) gc)) (lb + 2) (.slice ga (j + 1) gc) ((Z.map fun z => ((0 : Int), z.1)) ++ [((0 : Int), x)]) := own_set O6' (fun e => by have q : lb + 2 ≤ lb := (World.ownsRow.lt O6' _ e).1; omega) _
                  have HL7 := Lib.hid hl7; have HS7 := Lib.hid hs7; have HB7 := Lib.hid B7; have HO7 := Lib.hid O7; have HT7 := Lib.hid S7
                  clear hl7 hs7 B7 O6' S7 O7 HL6 H12 O6 s6 f6 e1 kx e1A kxA HL2 HS2 HOR2 HOS2 TB F1 K0 K1 BY hlz
                  generalize w6.setCell ⟨lb, 0, none⟩ (.slice ga (j + 1) gc) = w7 at *
                  have hlz7 : lb + 2 ≤ w7.heap.size := blk_lt HS7.out
                  have m1 := cell_blk_some HS7.out (i := 0) rfl
                  have mv := KV.out _ HB7.out
                  have cv := (KB.out _ HB7.out.drew).conv
                  have F7 : Hid (∀ ob, Fr (fun _ => False) w7 (w7.drew.alloc ob)) := Lib.hid fun ob => (Fr.refl _ w7).drew.alloc ob
                  have m1A : ∀ ob, (w7.alloc ob).cell? ⟨lb + 1, 0, none⟩ = some (.slice sa2 j sc2) := fun ob => cell_blk_some (((F7.out ob).block (lb + 1) (blk_lt HS7.out) id).trans HS7.out) rfl
                  have mvA : ∀ ob, (w7.alloc ob).cell? ⟨g2, o2 + j, none⟩ = some (.slice va bs.length vc) := fun ob => KV.out _ (HB7.out.alloc (by omega) ob)
                  obtain ⟨st, hst⟩ : ∃ st, st = strOfNums bs := ⟨_, rfl⟩
                  rw [← hst] at cv
                  have HSTS := Lib.hid hst
                  clear hst
                  go_wp2_with fail
                  go_region_law
                    (refine step_append_g (by rfl) (.tmp 69) (.tmp 75) (by rfl) elStr (by rfl) (own_frame HT7.out (F7.out _) fun _ _ => id) (by rfl) (srcS w7.drew st) (by unfold maxLen; rw [List.length_map, HZL.out]; omega) (by rw [List.length_map, HZL.out]; omega) (Nat.le_trans hlz7 (F7.out _).size) ?_
                     intro v8 w8 ho8 hf8 hv8
                     obtain ⟨ha, hc, rfl⟩ := own_shape ho8
                     have h12 := ((F7.out _).mono fun _ _ => False.elim).trans hf8
                     have hs8 := (h12.block (lb + 1) (blk_lt HS7.out) (fun e => by have := (HT7.out.lt _ e).1; omega)).trans HS7.out
                     have s8 := cell_blk_some (i := 0) hs8 rfl
                     have f8 := free_blk (i := 0) hs8
                     have HS8 := Lib.hid hs8
                     have H12 := Lib.hid h12
                     rw [HSTS.out] at ho8
                     have O8 := Lib.hid (OwnS.snoc ho8 rfl)
                     clear ho8 hf8 hv8 h12 hs8
                     dsimp only)
                  all_goals
                    rw [HZL.out]
                    have o8 := O8.out
                    rw [List.length_map, HZL.out] at o8
                    have T9 : TwoOwn w1 lb (Z ++ [(x, bs)]) (w8.setCell ⟨lb + 1, 0, none⟩ (.slice ha (j + 1) hc)) := by
                      refine ⟨⟨.slice ga (j + 1) gc, .slice ha (j + 1) hc, blk_set_other ((H12.out.block lb (blk_lt HL7.out) (fun e => by have := (HT7.out.lt _ e).1; omega)).trans HL7.out) (fun e => by have : lb = lb + 1 := e; omega) _, blk_set (i := 0) HS8.out _, ?_, ?_⟩, ?_, ?_, ?_, HLOW.out⟩
                      · rw [List.map_append]
                        exact own_set (own_frame HO7.out H12.out (own_apart HT7.out HO7.out (by decide))) (fun e => by have q : lb + 2 ≤ lb + 1 := (World.ownsRow.lt HO7.out _ e).1; omega) _
                      · rw [List.map_append]
                        exact own_set o8 (fun e => by have q : lb + 2 ≤ lb + 1 := (World.ownsRow.lt o8 _ e).1; omega) _
                      · rw [List.map_append]
                        refine List.nodup_append.2 ⟨HT.out.nd, by simp, fun a ha b hb he => ?_⟩
                        rw [List.map_cons, List.map_nil, List.mem_singleton] at hb
                        have hax : a = x := he.trans hb
                        exact HND.out (hax ▸ ha)
                      · intro z hz
                        rcases List.mem_append.1 hz with hz | hz
                        · exact HT.out.by8 z hz
                        · rw [List.mem_singleton.1 hz]; exact HB8.out
                      · exact (HB7.out.trans (H12.out.toBelow (B := lb) (by omega) fun y hy => by have := (HT7.out.lt _ hy).1; omega)).setCell (show lb ≤ lb + 1 by omega) _
                    have HT9 := Lib.hid T9
                    have HZ9 : Hid ((Z ++ [(x, bs)]).length = j + 1) := Lib.hid (by rw [List.length_append, HZL.out]; rfl)
                    clear T9 o8 s8 f8 HS8 H12 O8 HL7 HS7 HB7 HO7 HT7 m1 mv cv F7 m1A mvA
                    go_wp2_with fail
                    go_roundw
                    case rel => exact ⟨j + 1, _, by omega, by omega, by go_num, HZ9.out, HT9.out⟩
                    case measure => simp only [RowKit.intOf]; omega
          · have q3 : decide ((100 : Int) < (bs.length : Int)) = true := decide_eq_true (by omega)
            clear XR YR SR PR HT
            go_wp2_with fail
            go_ret
            exact ⟨rfl, BR.out⟩
        · have hends : (xs.length = i) ∨ (i < xs.length ∧ n = i) := by omega
          have TA := Lib.hid (HT.out.at_ (by rw [HZL.out]; omega))
          have ZB := Lib.hid HT.out.by8
          obtain ⟨lv2, sv2, hl2, hs2, hor2, hos2⟩ := HT.out.ex
          obtain ⟨la2, lc2, rfl⟩ := hor2.shape
          obtain ⟨sa2, sc2, rfl⟩ := hos2.shape
          have hz1 : (Z.map fun z => ((0 : Int), z.1)).length = Z.length := List.length_map ..
          have hz2 : (Z.map (·.2)).length = Z.length := List.length_map ..
          have hza : ZAt wr (.slice la2 (Z.map fun z => ((0 : Int), z.1)).length lc2) (.slice sa2 (Z.map (·.2)).length sc2) Z := ⟨hor2.row, hos2.row, HT.out.nd, HT.out.by8, by rw [HZL.out]; omega⟩
          rw [hz1] at hl2 hza
          rw [hz2] at hs2 hza
          have HL2 := Lib.hid hl2; have HS2 := Lib.hid hs2
          have HZA := Lib.hid hza
          clear hz1 hz2
          have hLD := load_any (tr := []) (l := ws) (loads_reader TA.out) SR.out (Below.refl _ _) HW9.out HWB.out
          rw [← HCS.out] at hLD
          have HLD := Lib.hid hLD
          clear hl2 hs2 hor2 hos2 hza hLD hgo
          rcases hends with hends | ⟨hends, hends2⟩
          focus
            have b1 : decide ((i : Int) < (xs.length : Int)) = false := decide_eq_false (by omega)
            go_wp2_with (refine wpList_load_row rfl 55 _ rfl _ rfl 55 _ _ _ PR.out Tryd.underlying55 rfl (by rw [HSZ.out]; kernel_rfl) ?_)
          rotate_left
          focus
            have b1 : (i : Int) < (xs.length : Int) := by omega
            have b2 : decide ((i : Int) < (n : Int)) = false := decide_eq_false (by omega)
            go_wp2_with (refine wpList_load_row rfl 55 _ rfl _ rfl 55 _ _ _ PR.out Tryd.underlying55 rfl (by rw [HSZ.out]; kernel_rfl) ?_)
          all_goals
            refine HLD.out.mono ?_
            rintro e w3 ⟨hfr3, h3⟩
            have hb3 : Below wr.heap.size wr w3 := hfr3.toBelow (Nat.le_refl _) fun _ h => h.elim
            have P3 := Lib.hid ((hb3.block _ (blk_lt PR.out)).trans PR.out)
            have c63 := cell_blk_some ((hb3.block _ (blk_lt HL2.out)).trans HL2.out) (i := 0) rfl
            have c64 := cell_blk_some ((hb3.block _ (blk_lt HS2.out)).trans HS2.out) (i := 0) rfl
            have B3 := Lib.hid (below_call BR.out hb3 (Nat.le_refl _))
            have hRL := rload_any (HZA.out.below hb3) HW9.out HWB.out
            rw [← HCS.out] at hRL
            have HRL := Lib.hid hRL
            clear hfr3 hb3 hRL HLD PR HL2 HS2 BR HZA SR TA HT
            rcases h3 with ⟨hok, xb, d, m, F, rfl, hF, hI, hadr, -, -⟩ | ⟨hbad, rfl⟩
            · have HOK := Lib.hid hok
              have HF := Lib.hid hF; have HI := Lib.hid hI; have HAD := Lib.hid hadr
              clear hF hI hadr hok
              go_wp2_with (refine wpList_load_row rfl 55 _ rfl _ rfl 55 _ _ _ P3.out Tryd.underlying55 rfl (by rw [HSZ.out]; kernel_rfl) ?_)
              refine HRL.out.mono ?_
              rintro e w4 ⟨hb4, h4⟩
              rcases h4 with ⟨_, csm, vm, rfl, hmm, hpp⟩ | ⟨hbad, _⟩
              focus
                have HB5 : Hid ((w4.alloc (.cells Tryd.zeroCells68 68)).heap[w4.heap.size]? = some (.cells Tryd.zeroCells68 68 (0, 0))) := Lib.hid (blk_new rfl)
                have hbe : Below w4.heap.size w4 ((w4.alloc (.cells Tryd.zeroCells68 68)).setRow w4.heap.size csm) := below_setRow ((Below.refl _ w4).alloc (Nat.le_refl _) _) (Nat.le_refl _) _
                have hB6 := setRow_heap _ _ _ csm _ _ HB5.out
                have HB6 := Lib.hid hB6
                have HZ6 := Lib.hid hmm.size; have HO6 := Lib.hid (hmm.all1 hpp); have HZ1 := Lib.hid zeroRM_size
                have h36 := below_call (below_call (Below.refl _ w3) hb4 (Nat.le_refl _)) hbe (Nat.le_refl _)
                have hsame := same_of HI.out HAD.out
                have hTL := tells_any (HF.out.below h36) hsame hmm (hpp.below hbe) (by
                  have := rowE_cap (rdZ Z) 4 600 ws 9
                  have h4 : capE 4 = 4369 := rfl
                  omega) (by
                  rw [HAD.out]
                  exact applyE_bd _ _ (rowE_bd (rdZ_some ZB.out) (fun p hp => (HWB.out p hp).1) HOK.out) fun c => ⟨Int.le_refl _, by show (0 : Int) < _; omega⟩)
                have HTL := Lib.hid hTL
                have B6 := Lib.hid (below_call B3.out h36 (Nat.le_refl _))
                clear hbe hB6 h36 hsame hTL hb4 hmm hpp HF HI HAD HRL P3 c63 c64
                go_wp2_with (first
                  | (refine wpList_store_row rfl 68 _ _ rfl w4.heap.size _ rfl rfl 68 _ HB5.out (by rw [HZ6.out]; kernel_rfl) (by rw [HZ1.out, HZ6.out]) (all_one HO6.out) ?_)
                  | (refine wpList_load_rowg rfl 68 _ rfl _ rfl 68 _ _ _ HB6.out Tryd.underlying68 rfl (by rw [HZ6.out]; kernel_rfl) ?_))
                refine HTL.out.mono ?_
                rintro e w7 ⟨rfl, hb7⟩
                have RES := Lib.hid (below_call B6.out hb7 (Nat.le_refl _))
                clear hb7 HTL HB5 HB6
                go_wp2_with fail
                go_ret
                exact ⟨rfl, RES.out⟩
              rw [HOK.out] at hbad
              cases hbad
            · have HOK := Lib.hid hbad
              clear hbad
              go_wp2_with (refine wpList_load_row rfl 55 _ rfl _ rfl 55 _ _ _ P3.out Tryd.underlying55 rfl (by rw [HSZ.out]; kernel_rfl) ?_)
              refine HRL.out.mono ?_
              rintro e w4 ⟨hb4, h4⟩
              rcases h4 with ⟨hbad, _⟩ | ⟨_, csm, rfl, hsz, hone⟩
              · rw [HOK.out] at hbad
                cases hbad
              · have HB5 : Hid ((w4.alloc (.cells Tryd.zeroCells68 68)).heap[w4.heap.size]? = some (.cells Tryd.zeroCells68 68 (0, 0))) := Lib.hid (blk_new rfl)
                have hbe : Below w4.heap.size w4 ((w4.alloc (.cells Tryd.zeroCells68 68)).setRow w4.heap.size csm) := below_setRow ((Below.refl _ w4).alloc (Nat.le_refl _) _) (Nat.le_refl _) _
                have HZ6 := Lib.hid hsz; have HO6 := Lib.hid hone; have HZ1 := Lib.hid zeroRM_size
                have B6 := Lib.hid (below_call B3.out (below_call hb4 hbe (Nat.le_refl _)) (Nat.le_refl _))
                clear hbe hb4 hsz hone HRL P3 c63 c64
                go_wp2_with (refine wpList_store_row rfl 68 _ _ rfl w4.heap.size _ rfl rfl 68 _ HB5.out (by rw [HZ6.out]; kernel_rfl) (by rw [HZ1.out, HZ6.out]) (all_one HO6.out) ?_)
                go_ret
                exact ⟨rfl, B6.out⟩
    · have q1 : decide ((20 : Int) < (xs.length : Int)) = false := decide_eq_false (by omega)
      have q2 : decide ((20 : Int) < (n : Int)) = true := decide_eq_true (by omega)
      go_enter Tryd.func8, Tryd.ntmps8
      go_wp2_with fail
      generalize W.alloc (.cells cs 55) = w0 at *
      refine HA.out.mono ?_
      rintro e w1 ⟨rfl, hb1⟩
      have HB1 := Lib.hid (below_call HB0.out hb1 (Nat.le_refl _))
      have HA1 := Lib.hid (awake_any (S0.out.below hb1))
      clear hb1 HA HB0 P0 X0 Y0 S0
      go_wp2_with fail
      refine HA1.out.mono ?_
      rintro e w2 ⟨rfl, hb2⟩
      have RES := Lib.hid (below_call HB1.out hb2 (Nat.le_refl _))
      clear hb2 HA1
      go_wp2_with fail
      go_ret
      exact ⟨rfl, RES.out⟩
  · have q1 : decide ((20 : Int) < (xs.length : Int)) = true := decide_eq_true (by omega)
    go_enter Tryd.func8, Tryd.ntmps8
    go_wp2_with fail
    generalize W.alloc (.cells cs 55) = w0 at *
    refine HA.out.mono ?_
    rintro e w1 ⟨rfl, hb1⟩
    have HB1 := Lib.hid (below_call HB0.out hb1 (Nat.le_refl _))
    have HA1 := Lib.hid (awake_any (S0.out.below hb1))
    clear hb1 HA HB0 P0 X0 Y0 S0
    go_wp2_with fail
    refine HA1.out.mono ?_
    rintro e w2 ⟨rfl, hb2⟩
    have RES := Lib.hid (below_call HB1.out hb2 (Nat.le_refl _))
    clear hb2 HA1
    go_wp2_with fail
    go_ret
    exact ⟨rfl, RES.out⟩
end Go.Proofs.YtklamgijikcnaaaDoor
