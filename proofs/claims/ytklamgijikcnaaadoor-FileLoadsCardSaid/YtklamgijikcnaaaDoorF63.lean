/- Walk of the law's places. -/
import Derived.Test.YtklamgijikcnaaaDoorF62
namespace Go.Proofs.YtklamgijikcnaaaDoor
open Go.RowKit

def QRow (w : World) (v : Value) (L : List (Int × Int)) : Prop :=
  ∃ a c, v = .slice a L.length c ∧ L.length ≤ c ∧ (0 < L.length → ∃ g, a = some ⟨g, 0, none⟩ ∧ ∀ (j : Nat) p, L[j]? = some p → w.cell? ⟨g, j * 2, none⟩ = some (.int .i64 p.1) ∧ w.cell? ⟨g, j * 2 + 1, none⟩ = some (.int .i64 p.2))
theorem PRow.q {w : World} {v : Value} {L : List (Int × Int)} (h : PRow w v L) : QRow w v L := by
  obtain ⟨a, c, rfl, hc, hr⟩ := h
  refine ⟨a, c, rfl, hc, fun h0 => ?_⟩
  obtain ⟨g, rfl, _, hcell⟩ := hr h0
  exact ⟨g, rfl, fun j p hj => ⟨hcell _ _ (flat2_at hj).1, hcell _ _ (flat2_at hj).2⟩⟩
theorem OwnP.q {w : World} {B : Nat} {v : Value} {L : List (Int × Int)} (h : OwnP w B v L) : QRow w v L := by
  rcases h.2 with ⟨rfl, h0⟩ | ⟨g, cap, cur, rfl, _, hg, hc, _, _, ht⟩
  · obtain rfl := List.eq_nil_of_length_eq_zero h0
    exact ⟨none, 0, rfl, by simp, fun h => by simp at h⟩
  · have hcell : ∀ (j : Nat) u, (flat2 L)[j]? = some u → w.cell? ⟨g, j, none⟩ = some u := fun j u hj => by
      refine cell_blk_some hg ?_
      have hjl := (List.getElem?_eq_some_iff.1 hj).1
      rw [h.1] at hjl
      rw [← ht, List.getElem?_take_of_lt hjl, Array.getElem?_toList] at hj
      exact hj
    exact ⟨_, cap, rfl, hc, fun h0 => ⟨g, rfl, fun j p hj => ⟨hcell _ _ (flat2_at hj).1, hcell _ _ (flat2_at hj).2⟩⟩⟩
set_option maxHeartbeats 2000000 in
set_option maxRecDepth 100000 in
theorem rows_same {w : World} {v1 v2 : Value} {L : List (Int × Int)} (h1 : QRow w v1 L) (h2 : QRow w v2 L) (hl : L.length ≤ 10000) :
    Calls Tryd.prog 44 #[v1, v2] w fun e w' => e = .returned (.bool true) ∧ Below w.heap.size w w' := by
  obtain ⟨a1, c1, rfl, hc1, hr1⟩ := h1
  obtain ⟨a2, c2, rfl, hc2, hr2⟩ := h2
  have HR1 := Lib.hid hr1; have HR2 := Lib.hid hr2
  clear hr1 hr2
  have hm : ((L.length : Nat) : Int) ≤ 10000 := by omega
  have hne : ((L.length : Int) != (L.length : Int)) = false := by simp
  go_enter Tryd.func44, Tryd.ntmps44
  go_wp2_with fail
  go_loopw [13] (fun i wr => ∃ (k : Nat) (n : Nat), k ≤ L.length ∧ i = .int .i64 k ∧ wr = w.drewN n) (fun i _ => L.length - (RowKit.intOf i).toNat)
  case atStart => exact ⟨0, 0, by omega, rfl, rfl⟩
  case round =>
    obtain ⟨k, n, hk, rfl, rfl⟩ := hrel
    by_cases hkl : k < L.length
    · obtain ⟨p, hp⟩ : ∃ p, L[k]? = some p := ⟨_, List.getElem?_eq_getElem hkl⟩
      obtain ⟨g1, rfl, hcell1⟩ := HR1.out (by omega)
      obtain ⟨g2, rfl, hcell2⟩ := HR2.out (by omega)
      obtain ⟨k0, k1⟩ := hcell1 k p hp
      obtain ⟨q0, q1⟩ := hcell2 k p hp
      have b0 : (0 : Int) ≤ (k : Int) := by omega
      have b1 : (k : Int) < (L.length : Int) := by omega
      have e1 : (p.1 != p.1) = false := by simp
      have e2 : (p.2 != p.2) = false := by simp
      clear hcell1 hcell2 hp
      go_wp2_with fail
      go_quiet (fail)
      go_wp2_with fail
      go_roundw
      case rel => exact ⟨k + 1, _, by omega, by go_num, rfl⟩
      case measure => simp only [RowKit.intOf]; omega
    · obtain rfl : k = L.length := by omega
      go_wp2_with fail
      go_ret
      exact ⟨rfl, below_drewN (Below.refl _ w) n⟩
end Go.Proofs.YtklamgijikcnaaaDoor
