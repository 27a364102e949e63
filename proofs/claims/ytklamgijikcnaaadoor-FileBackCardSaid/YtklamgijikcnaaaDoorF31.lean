/- Walks of the reference's All, Find. -/
import Derived.Test.YtklamgijikcnaaaDoorF30
namespace Go.Proofs.YtklamgijikcnaaaDoor
open Go.RowKit

set_option maxHeartbeats 2000000 in
set_option maxRecDepth 100000 in
theorem all_any (w : World) : Calls Tryd.prog 31 #[] w (BelRes w w.heap.size allN) := by
  have nil : ∀ w' : World, RowI w' w.heap.size (.slice none 0 0) [] := fun w' => ⟨none, 0, rfl, by simp, fun h => by simp at h⟩
  have HN := Lib.hid nil
  clear nil
  have B1 := Lib.hid (below_any 1 (by omega) 6 6 [] [] _ _ w w.heap.size (by omega) (by simp) (by simp) (HN.out w) (HN.out w) (Nat.le_refl _))
  rw [show ((1 : Nat) : Int) = 1 from rfl] at B1
  go_enter Tryd.func31, Tryd.ntmps31
  go_wp2_with fail
  refine B1.out.mono ?_
  rintro e w1 ⟨v1, rfl, ⟨L1, hown1, hm1⟩, hb1⟩
  have hz1 := hb1.size
  have B2 := Lib.hid (below_any 2 (by omega) 22 7 [] [] _ _ w1 w.heap.size (by omega) (by simp) (by simp) (HN.out w1) (HN.out w1) hz1)
  rw [show ((2 : Nat) : Int) = 2 from rfl] at B2
  have HO1 := Lib.hid hown1; have HM1 := Lib.hid hm1; have HB1 := Lib.hid hb1
  clear hown1 hm1 hb1 B1
  go_wp2_with fail
  refine B2.out.mono ?_
  rintro e w2 ⟨v2, rfl, ⟨L2, hown2, hm2⟩, hb2⟩
  have hl1 : L1.length ≤ 273 := by have := HM1.out.1; have := belowN_le 1 6 6 [] []; have := capB_le (k := 1) (by omega); omega
  have hl2 : L2.length ≤ 273 := by have := hm2.1; have := belowN_le 2 22 7 [] []; have := capB_le (k := 2) (by omega); omega
  have hz2 : w1.heap.size ≤ w2.heap.size := hb2.size
  have HO12 := Lib.hid (own_frame HO1.out (S := fun _ => False) (Fr.below hb2) (fun _ _ => id)); have HM12 := Lib.hid (HM1.out.below hb2)
  have HO2 := Lib.hid hown2; have HM2 := Lib.hid hm2; have HB2 := Lib.hid hb2
  clear hown2 hm2 hb2 B2
  go_wp2_with (refine wpList_append_g (by rfl) (.tmp 4) (.tmp 6) (by rfl) elMeta (by rfl) HO12.out (by rfl) (SrcG.of_own HO2.out HM2.out.one) (by unfold maxLen; omega) (by omega) (by omega) ?_)
  intro v3 w3 ho3 hf3 hv3
  obtain ⟨L3, hown3, hm3⟩ := MetasAt.grow HO12.out HM12.out HM2.out ho3 hf3
  have hb3 : Below w.heap.size w w3 := HB1.out.trans ((HB2.out.mono hz1).trans (hf3.toBelow (B := w.heap.size) (by omega) fun x hx => (HO12.out.lt _ hx).1))
  have hz3 : w.heap.size ≤ w3.heap.size := hb3.size
  have hl3 : L3.length ≤ 546 := by have := hm3.1; rw [List.length_append] at this; have := HM12.out.1; have := HM2.out.1; omega
  have B3 := Lib.hid (below_any 3 (by omega) 278 8 [] [] _ _ w3 w.heap.size (by omega) (by simp) (by simp) (HN.out w3) (HN.out w3) hz3)
  rw [show ((3 : Nat) : Int) = 3 from rfl] at B3
  have HO3 := Lib.hid hown3; have HM3 := Lib.hid hm3; have HB3 := Lib.hid hb3
  clear hown3 hm3 hb3 ho3 hf3 hv3 HO12 HM12 HO2 HM2 HB2 HO1 HM1 HB1
  go_wp2_with fail
  refine B3.out.mono ?_
  rintro e w4 ⟨v4, rfl, ⟨L4, hown4, hm4⟩, hb4⟩
  have hl4 : L4.length ≤ 273 := by have := hm4.1; have := belowN_le 3 278 8 [] []; have := capB_le (k := 3) (by omega); omega
  have hz4 : w3.heap.size ≤ w4.heap.size := hb4.size
  have HO34 := Lib.hid (own_frame HO3.out (S := fun _ => False) (Fr.below hb4) (fun _ _ => id)); have HM34 := Lib.hid (HM3.out.below hb4)
  have HO4 := Lib.hid hown4; have HM4 := Lib.hid hm4; have HB4 := Lib.hid hb4
  clear hown4 hm4 hb4 B3
  go_wp2_with (refine wpList_append_g (by rfl) (.tmp 8) (.tmp 10) (by rfl) elMeta (by rfl) HO34.out (by rfl) (SrcG.of_own HO4.out HM4.out.one) (by unfold maxLen; omega) (by omega) (by omega) ?_)
  intro v5 w5 ho5 hf5 hv5
  have RES : Hid (MetasAt w5 w.heap.size w.heap.size v5 allN ∧ Below w.heap.size w w5) := Lib.hid ⟨MetasAt.grow HO34.out HM34.out HM4.out ho5 hf5, HB3.out.trans ((HB4.out.mono hz3).trans (hf5.toBelow (B := w.heap.size) (by omega) fun x hx => (HO34.out.lt _ hx).1))⟩
  clear ho5 hf5 hv5
  go_wp2_with fail
  go_ret
  exact ⟨_, rfl, RES.out⟩
theorem allN_len : allN.length = 42 := by decide +kernel
theorem allN_first : ∀ m ∈ allN, 0 ≤ m.first ∧ m.first < 600 ∧ m.ms.length ≤ 3 ∧ m.ss.length ≤ 3 := by decide +kernel
theorem MetasAt.monoB {w : World} {B1 B B' : Nat} {v : Value} {R : List MetaR} (h : MetasAt w B1 B v R) (hb : B' ≤ B) : MetasAt w B1 B' v R := by
  obtain ⟨L, h1, h2, h3⟩ := h
  exact ⟨L, h1, h2, fun i x r hx hr => by
    have := h3 i x r hx hr
    exact ⟨this.n, this.lvl, this.first, this.root, this.ms.mono hb, this.ss.mono hb⟩⟩
/-- What Find says. -/
def hitR (n : Int) (m : MetaR) : Option MetaR :=
  if m.n = n then some m else if m.lvl = 1 ∧ m.first ≤ n ∧ n < m.first + 16 ∧ n < 600 then some ⟨n, 0, n, m.root, m.ms ++ [m.n], m.ss ++ [n - m.first]⟩ else none
def rfindN (n : Int) : Option MetaR := if 0 ≤ n ∧ n < 6 then some ⟨n, 0, n, n, [], []⟩ else allN.findSome? (hitR n)
def zeroM : MetaR := ⟨0, 0, 0, 0, [], []⟩
def RFind (n : Int) (w : World) (e : Ending) (w' : World) : Prop :=
  ∃ x : MetaV, e = .returned (.tuple #[.agg x.flat.toArray, .bool (rfindN n).isSome]) ∧ x.is w' w.heap.size ((rfindN n).getD zeroM) ∧ Below w.heap.size w w'
theorem findSome_no {α β : Type} {f : α → Option β} {l : List α} {j : Nat} (h : ∀ x ∈ l.take j, f x = none) : l.findSome? f = (l.drop j).findSome? f := by
  conv => lhs; rw [← List.take_append_drop j l]
  rw [List.findSome?_append, List.findSome?_eq_none_iff.2 h]
  rfl
theorem findSome_at {α β : Type} {f : α → Option β} {l : List α} {j : Nat} {x : α} {y : β} (h : ∀ x ∈ l.take j, f x = none) (hx : l[j]? = some x) (hy : f x = some y) : l.findSome? f = some y := by
  rw [findSome_no h]
  obtain ⟨hl, rfl⟩ := List.getElem?_eq_some_iff.1 hx
  rw [List.drop_eq_getElem_cons hl, List.findSome?_cons, hy]
end Go.Proofs.YtklamgijikcnaaaDoor
