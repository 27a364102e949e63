/- '==' on arrays of entries: whether the lists of entries are one. -/
import Derived.Test.YtggfdhjckohmjaaDoorE9
namespace Go.Proofs.YtggfdhjckohmjaaDoor
open Go.RowKit

theorem all_range_eq {α : Type} [DecidableEq α] (L L' : List α) (z : α) (n : Nat) (h : L.length = n) (h' : L'.length = n) : (List.range n).all (fun j => decide (L.getD j z = L'.getD j z)) = decide (L = L') := by
  rw [Bool.eq_iff_iff, List.all_eq_true]
  simp only [decide_eq_true_eq]
  constructor
  · intro hq
    refine List.ext_getElem (by omega) fun i hi hi' => ?_
    have := hq i (List.mem_range.2 (by omega))
    simpa [List.getD_eq_getElem?_getD, List.getElem?_eq_getElem hi, List.getElem?_eq_getElem hi'] using this
  · rintro rfl _ _; rfl

theorem take_two {l : List Value} {m : Nat} {a b : Value} (h0 : l[m]? = some a) (h1 : l[m + 1]? = some b) : (l.drop m).take 2 = [a, b] := by
  obtain ⟨h0', rfl⟩ := List.getElem?_eq_some_iff.1 h0
  obtain ⟨h1', rfl⟩ := List.getElem?_eq_some_iff.1 h1
  rw [List.drop_eq_getElem_cons h0', List.drop_eq_getElem_cons h1']; rfl

theorem eqInM (d : Nat) (L L' : List (Int × Int)) (h : L.length = 8) (h' : L'.length = 8) (w : World) :
    (Op.equalIn (d + 3) 24 (.agg (flatM L).toArray) (.agg (flatM L').toArray)).run Tryd.prog w = .ok (decide (L = L')) w := by
  obtain ⟨i, hi⟩ : ∃ i, Tryd.prog.info? 23 = some i := Option.isSome_iff_exists.1 (by kernel_rfl)
  have hs : i.size = 2 := by
    have : (Tryd.prog.info? 23).map (·.size) = some 2 := by kernel_rfl
    rw [hi] at this; exact Option.some.inj this
  rw [run_equalIn_array (d + 2) _ 23 8 Tryd.underlying24 i hi, hs]
  rw [run_eqElems (d + 2) _ 2 _ _ (fun j => decide (L.getD j (0, 0) = L'.getD j (0, 0)))]
  · rw [all_range_eq L L' (0, 0) 8 h h']
  · intro j hj
    have hjn := List.mem_range.1 hj
    obtain ⟨a0, a1⟩ := flatM_get L j (by omega)
    obtain ⟨b0, b1⟩ := flatM_get L' j (by omega)
    generalize L.getD j (0, 0) = p at *
    generalize L'.getD j (0, 0) = q at *
    obtain ⟨p0, p1⟩ := p
    obtain ⟨q0, q1⟩ := q
    have hag := Tryd.isAgg23
    have hsz := Tryd.sizeOf23
    refine ⟨.agg #[.int .i64 p0, .int .i64 p1], .agg #[.int .i64 q0, .int .i64 q1], ?_, ?_, ?_⟩
    · simp [part, hag, hsz, take_two a0 a1]
    · simp [part, hag, hsz, take_two b0 b1]
    · go_simp
      by_cases e0 : p0 = q0 <;> by_cases e1 : p1 = q1 <;> simp [e0, e1]

theorem eqInMr (d : Nat) (L L' : List (Int × Int)) (h : L.length = 8) (h' : L'.length = 8) (w : World) :
    (Op.equalIn (d + 3) 33 (.agg (flatM L).toArray) (.agg (flatM L').toArray)).run Tryd.prog w = .ok (decide (L = L')) w := by
  obtain ⟨i, hi⟩ : ∃ i, Tryd.prog.info? 32 = some i := Option.isSome_iff_exists.1 (by kernel_rfl)
  have hs : i.size = 2 := by
    have : (Tryd.prog.info? 32).map (·.size) = some 2 := by kernel_rfl
    rw [hi] at this; exact Option.some.inj this
  rw [run_equalIn_array (d + 2) _ 32 8 Tryd.underlying33 i hi, hs]
  rw [run_eqElems (d + 2) _ 2 _ _ (fun j => decide (L.getD j (0, 0) = L'.getD j (0, 0)))]
  · rw [all_range_eq L L' (0, 0) 8 h h']
  · intro j hj
    have hjn := List.mem_range.1 hj
    obtain ⟨a0, a1⟩ := flatM_get L j (by omega)
    obtain ⟨b0, b1⟩ := flatM_get L' j (by omega)
    generalize L.getD j (0, 0) = p at *
    generalize L'.getD j (0, 0) = q at *
    obtain ⟨p0, p1⟩ := p
    obtain ⟨q0, q1⟩ := q
    have hag := Tryd.isAgg32
    have hsz := Tryd.sizeOf32
    refine ⟨.agg #[.int .i64 p0, .int .i64 p1], .agg #[.int .i64 q0, .int .i64 q1], ?_, ?_, ?_⟩
    · simp [part, hag, hsz, take_two a0 a1]
    · simp [part, hag, hsz, take_two b0 b1]
    · go_simp
      by_cases e0 : p0 = q0 <;> by_cases e1 : p1 = q1 <;> simp [e0, e1]

theorem eqInD (d : Nat) (L L' : List DE) (h : L.length = 4) (h' : L'.length = 4) (w : World) :
    (Op.equalIn (d + 3) 40 (.agg (flatD L).toArray) (.agg (flatD L').toArray)).run Tryd.prog w = .ok (decide (L = L')) w := by
  obtain ⟨i, hi⟩ : ∃ i, Tryd.prog.info? 39 = some i := Option.isSome_iff_exists.1 (by kernel_rfl)
  have hs : i.size = 2 := by
    have : (Tryd.prog.info? 39).map (·.size) = some 2 := by kernel_rfl
    rw [hi] at this; exact Option.some.inj this
  rw [run_equalIn_array (d + 2) _ 39 4 Tryd.underlying40 i hi, hs]
  rw [run_eqElems (d + 2) _ 2 _ _ (fun j => decide (L.getD j nilDE = L'.getD j nilDE))]
  · rw [all_range_eq L L' nilDE 4 h h']
  · intro j hj
    have hjn := List.mem_range.1 hj
    obtain ⟨a0, a1⟩ := flatD_get L j (by omega)
    obtain ⟨b0, b1⟩ := flatD_get L' j (by omega)
    generalize L.getD j nilDE = p at *
    generalize L'.getD j nilDE = q at *
    obtain ⟨p0, p1⟩ := p
    obtain ⟨q0, q1⟩ := q
    have hag := Tryd.isAgg39
    have hsz := Tryd.sizeOf39
    refine ⟨.agg #[.int .i64 p0, .string p1], .agg #[.int .i64 q0, .string q1], ?_, ?_, ?_⟩
    · simp [part, hag, hsz, take_two a0 a1]
    · simp [part, hag, hsz, take_two b0 b1]
    · have e2 : (p1.toList == q1.toList) = decide (p1 = q1) := by
        rw [Bool.eq_iff_iff, beq_iff_eq, decide_eq_true_eq, ByteArray.toList_eq, ByteArray.toList_eq]
        constructor
        · intro h; cases p1; cases q1; congr 1; exact Array.ext' h
        · rintro rfl; rfl
      go_simp
      by_cases e0 : p0 = q0 <;> by_cases e1 : p1 = q1 <;> simp [e0, e1]

theorem eqInDr (d : Nat) (L L' : List DE) (h : L.length = 4) (h' : L'.length = 4) (w : World) :
    (Op.equalIn (d + 3) 44 (.agg (flatD L).toArray) (.agg (flatD L').toArray)).run Tryd.prog w = .ok (decide (L = L')) w := by
  obtain ⟨i, hi⟩ : ∃ i, Tryd.prog.info? 43 = some i := Option.isSome_iff_exists.1 (by kernel_rfl)
  have hs : i.size = 2 := by
    have : (Tryd.prog.info? 43).map (·.size) = some 2 := by kernel_rfl
    rw [hi] at this; exact Option.some.inj this
  rw [run_equalIn_array (d + 2) _ 43 4 Tryd.underlying44 i hi, hs]
  rw [run_eqElems (d + 2) _ 2 _ _ (fun j => decide (L.getD j nilDE = L'.getD j nilDE))]
  · rw [all_range_eq L L' nilDE 4 h h']
  · intro j hj
    have hjn := List.mem_range.1 hj
    obtain ⟨a0, a1⟩ := flatD_get L j (by omega)
    obtain ⟨b0, b1⟩ := flatD_get L' j (by omega)
    generalize L.getD j nilDE = p at *
    generalize L'.getD j nilDE = q at *
    obtain ⟨p0, p1⟩ := p
    obtain ⟨q0, q1⟩ := q
    have hag := Tryd.isAgg43
    have hsz := Tryd.sizeOf43
    refine ⟨.agg #[.int .i64 p0, .string p1], .agg #[.int .i64 q0, .string q1], ?_, ?_, ?_⟩
    · simp [part, hag, hsz, take_two a0 a1]
    · simp [part, hag, hsz, take_two b0 b1]
    · have e2 : (p1.toList == q1.toList) = decide (p1 = q1) := by
        rw [Bool.eq_iff_iff, beq_iff_eq, decide_eq_true_eq, ByteArray.toList_eq, ByteArray.toList_eq]
        constructor
        · intro h; cases p1; cases q1; congr 1; exact Array.ext' h
        · rintro rfl; rfl
      go_simp
      by_cases e0 : p0 = q0 <;> by_cases e1 : p1 = q1 <;> simp [e0, e1]
end Go.Proofs.YtggfdhjckohmjaaDoor
