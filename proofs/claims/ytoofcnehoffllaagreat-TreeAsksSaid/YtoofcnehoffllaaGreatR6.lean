/- Walk of the reference's put. -/
import Derived.Test.YtoofcnehoffllaaGreatR5
namespace Go.Proofs.YtoofcnehoffllaaGreat
open Go.RowKit

theorem elEnt : ElT Tryz.prog 72 95 2 24 (.agg #[.string ⟨#[]⟩, .int .i64 0]) := ⟨Tryz.underlying72, by kernel_rfl, by kernel_rfl, by decide⟩
/-- The entries' cells. -/
def entCells (L : List (ByteArray × Nat)) : List Value := L.flatMap fun x => [.string x.1, .int .i64 x.2]
theorem entCells_len {L : List (ByteArray × Nat)} : (entCells L).length = L.length * 2 := by
  induction L with
  | nil => rfl
  | cons x L ih => unfold entCells at ih ⊢; rw [List.flatMap_cons, List.length_append, ih, List.length_cons]; simp; omega
theorem entCells_append {L R : List (ByteArray × Nat)} : entCells (L ++ R) = entCells L ++ entCells R := List.flatMap_append
theorem entCells_get : ∀ {L : List (ByteArray × Nat)} {k : Nat} {x : ByteArray × Nat}, L[k]? = some x → (entCells L)[k * 2]? = some (.string x.1) ∧ (entCells L)[k * 2 + 1]? = some (.int .i64 x.2)
  | [], k, x, h => by simp at h
  | y :: L, 0, x, h => by
    have h : y = x := by simpa using h
    subst h
    exact ⟨rfl, rfl⟩
  | y :: L, k + 1, x, h => by
    rw [List.getElem?_cons_succ] at h
    obtain ⟨h1, h2⟩ := entCells_get h
    have e : entCells (y :: L) = .string y.1 :: .int .i64 y.2 :: entCells L := rfl
    rw [e, show (k + 1) * 2 = k * 2 + 1 + 1 by omega, show k * 2 + 1 + 1 + 1 = (k * 2 + 1) + 1 + 1 by omega]
    simp only [List.getElem?_cons_succ]
    exact ⟨h1, h2⟩
theorem entCells_one {L : List (ByteArray × Nat)} : ∀ u ∈ entCells L, u.oneCell' = true := fun u hu => by
  obtain ⟨x, -, h⟩ := List.mem_flatMap.1 hu
  rcases List.mem_cons.1 h with rfl | h
  · rfl
  · rcases List.mem_cons.1 h with rfl | h
    · rfl
    · cases h
theorem lt_of_not {a b : List UInt8} (h : ¬ b < a) (hn : a ≠ b) : a < b := by
  by_cases h2 : a < b
  · exact h2
  · exact absurd (List.le_antisymm (List.not_lt.1 h) (List.not_lt.1 h2)) hn
theorem data_inj {x y : ByteArray} (h : x.data.toList = y.data.toList) : x = y := by
  rw [← mkS_data x, ← mkS_data y, h]
theorem less_eq (x y : ByteArray) : Op.bytesLess x.toList y.toList = decide (x.data.toList < y.data.toList) := by
  rw [bytesLess_eq, Lib.toList_data, Lib.toList_data]
theorem less_true {x y : ByteArray} (h : x.data.toList < y.data.toList) : Op.bytesLess x.toList y.toList = true := by rw [less_eq]; exact decide_eq_true h
theorem less_false {x y : ByteArray} (h : ¬ x.data.toList < y.data.toList) : Op.bytesLess x.toList y.toList = false := by rw [less_eq]; exact decide_eq_false h
/-- A name more among the entries. -/
theorem EntL.put {f : ByteArray → Option Nat} {L : List (ByteArray × Nat)} (h : EntL f L) {s : ByteArray} (i : Nat) (hno : f s = none) {m : Nat} (h1 : ∀ x ∈ L.take m, ¬ s.data.toList < x.1.data.toList) (h2 : ∀ x, L[m]? = some x → s.data.toList < x.1.data.toList) :
    EntL (updE f s (some i)) (L.take m ++ (s, i) :: L.drop m) := by
  obtain ⟨hp, hm⟩ := h
  have hne : ∀ x ∈ L, x.1 ≠ s := fun x hx e => by
    have := (hm x.1 x.2).1 hx
    rw [e, hno] at this; cases this
  have hq : (L.take m ++ L.drop m).Pairwise fun a b => a.1.data.toList < b.1.data.toList := by
    rw [List.take_append_drop]
    exact List.pairwise_map.1 hp
  rw [List.pairwise_append] at hq
  obtain ⟨q1, q2, q3⟩ := hq
  have hd : ∀ y ∈ L.drop m, s.data.toList < y.1.data.toList := fun y hy => by
    cases hdr : L.drop m with
    | nil => rw [hdr] at hy; cases hy
    | cons z r =>
      rw [hdr] at hy q2
      have hz : L[m]? = some z := by
        have := congrArg (fun l => l[0]?) hdr
        simpa using this
      rcases List.mem_cons.1 hy with rfl | hy
      · exact h2 y hz
      · exact List.lt_trans (h2 z hz) ((List.pairwise_cons.1 q2).1 y hy)
  have ht : ∀ x ∈ L.take m, x.1.data.toList < s.data.toList := fun x hx => lt_of_not (h1 x hx) fun e => hne x (List.mem_of_mem_take hx) (data_inj e)
  refine ⟨List.pairwise_map.2 (List.pairwise_append.2 ⟨q1, List.pairwise_cons.2 ⟨hd, q2⟩, fun x hx y hy => ?_⟩), fun t j => ?_⟩
  · rcases List.mem_cons.1 hy with rfl | hy
    · exact ht x hx
    · exact q3 x hx y hy
  · have hmem : (t, j) ∈ L.take m ++ (s, i) :: L.drop m ↔ (t, j) = (s, i) ∨ (t, j) ∈ L := by
      conv => rhs; rw [← List.take_append_drop m L]
      rw [List.mem_append, List.mem_cons, List.mem_append]
      constructor
      · rintro (h | h | h)
        · exact .inr (.inl h)
        · exact .inl h
        · exact .inr (.inr h)
      · rintro (h | h | h)
        · exact .inr (.inl h)
        · exact .inl h
        · exact .inr (.inr h)
    rw [hmem, hm]
    unfold updE
    by_cases e : t = s
    · rw [if_pos e]
      subst e
      constructor
      · rintro (h | h)
        · injection h with _ h; rw [h]
        · rw [hno] at h; cases h
      · intro h
        injection h with h
        exact .inl (by rw [h])
    · rw [if_neg e]
      constructor
      · rintro (h | h)
        · injection h with h; exact absurd h e
        · exact h
      · exact .inr
/-- The entries that put has laid: so many of the row, the new one among them. -/
def InsR (L : List (ByteArray × Nat)) (s : ByteArray) (i k : Nat) (b : Bool) (R : List (ByteArray × Nat)) : Prop :=
  (b = false ∧ R = L.take k ∧ ∀ x ∈ L.take k, ¬ s.data.toList < x.1.data.toList) ∨
  (b = true ∧ ∃ m, m < k ∧ R = L.take m ++ (s, i) :: (L.take k).drop m ∧ (∀ x ∈ L.take m, ¬ s.data.toList < x.1.data.toList) ∧ ∀ x, L[m]? = some x → s.data.toList < x.1.data.toList)
section
variable {L R : List (ByteArray × Nat)} {s : ByteArray} {i k : Nat} {x : ByteArray × Nat}
theorem take_succ' (hx : L[k]? = some x) : L.take (k + 1) = L.take k ++ [x] := by rw [List.take_add_one, hx]; rfl
theorem InsR.start : InsR L s i 0 false [] := .inl ⟨rfl, rfl, fun x hx => by cases hx⟩
theorem InsR.keep (h : InsR L s i k false R) (hx : L[k]? = some x) (hn : ¬ s.data.toList < x.1.data.toList) : InsR L s i (k + 1) false (R ++ [x]) := by
  rcases h with ⟨-, rfl, h⟩ | ⟨h, -⟩
  · refine .inl ⟨rfl, (take_succ' hx).symm, fun y hy => ?_⟩
    rw [take_succ' hx] at hy
    rcases List.mem_append.1 hy with hy | hy
    · exact h y hy
    · rw [List.mem_singleton.1 hy]; exact hn
  · cases h
theorem InsR.put (h : InsR L s i k false R) (hx : L[k]? = some x) (hn : s.data.toList < x.1.data.toList) : InsR L s i (k + 1) true (R ++ [(s, i)] ++ [x]) := by
  rcases h with ⟨-, rfl, h⟩ | ⟨h, -⟩
  · refine .inr ⟨rfl, k, by omega, ?_, h, fun y hy => ?_⟩
    · have hk : k < L.length := (List.getElem?_eq_some_iff.1 hx).1
      rw [take_succ' hx, List.drop_append_of_le_length (by rw [List.length_take]; omega), List.drop_eq_nil_of_le (by rw [List.length_take]; omega)]
      simp
    · rw [hx] at hy
      rw [← Option.some.inj hy]; exact hn
  · cases h
theorem InsR.more (h : InsR L s i k true R) (hx : L[k]? = some x) : InsR L s i (k + 1) true (R ++ [x]) := by
  rcases h with ⟨h, -⟩ | ⟨-, m, hm, rfl, h1, h2⟩
  · cases h
  · refine .inr ⟨rfl, m, by omega, ?_, h1, h2⟩
    have hk : k < L.length := (List.getElem?_eq_some_iff.1 hx).1
    rw [take_succ' hx, List.drop_append_of_le_length (by rw [List.length_take]; omega)]
    simp
theorem InsR.len {b : Bool} (h : InsR L s i k b R) (hk : k ≤ L.length) : R.length ≤ k + 1 := by
  rcases h with ⟨-, rfl, -⟩ | ⟨-, m, hm, rfl, -, -⟩
  · rw [List.length_take]; omega
  · rw [List.length_append, List.length_cons, List.length_drop, List.length_take, List.length_take]; omega
theorem InsR.done {f : ByteArray → Option Nat} (h : InsR L s i L.length true R) (hL : EntL f L) (hno : f s = none) : EntL (updE f s (some i)) R := by
  rcases h with ⟨h, -⟩ | ⟨-, m, hm, rfl, h1, h2⟩
  · cases h
  · rw [List.take_length]
    exact hL.put i hno h1 h2
theorem InsR.last {f : ByteArray → Option Nat} (h : InsR L s i L.length false R) (hL : EntL f L) (hno : f s = none) : EntL (updE f s (some i)) (R ++ [(s, i)]) := by
  rcases h with ⟨-, rfl, h⟩ | ⟨h, -⟩
  · have := hL.put i hno (m := L.length) h (fun x hx => by simp at hx)
    rw [List.drop_length] at this
    exact this
  · cases h
end
section
variable {D : Nat → Prop} {w w' : World} {v : Value} {cap : Nat} {K : RM}
/-- A row of entries that a call has laid. -/
theorem EntRow.own {B : Nat} {L : List (ByteArray × Nat)} {f : ByteArray → Option Nat} (h : w.ownsRow B 95 2 v L.length (entCells L)) (hL : EntL f L) (hl : L.length ≤ 1000000) (hD : ∀ b, B ≤ b → D b) : EntRow D w v f := by
  obtain ⟨a, c, rfl⟩ := own_shape h
  refine ⟨L, hL, hl, a, c, rfl, fun h0 => ?_⟩
  obtain ⟨g, c', he, _, hB, hg, hc⟩ := own_cells h h0
  obtain ⟨h1, -, -⟩ := Value.slice.inj he
  refine ⟨g, 0, h1, hD g hB, hg, fun k x hx => ?_⟩
  obtain ⟨e0, e1⟩ := entCells_get hx
  rw [Nat.zero_add]
  exact ⟨hc _ _ e0, hc _ _ e1⟩
/-- All cells of a node. -/
theorem RefIs.at_ (h : RefIs D w v cap K) : ∃ g c, v = .slice (some ⟨g, 0, none⟩) cap c ∧ D g ∧ g < w.heap.size ∧ ∀ i, i < cap → ∃ ev, w.cell? ⟨g, i * 3, none⟩ = some (.int .i64 (K i).kd) ∧ w.cell? ⟨g, i * 3 + 1, none⟩ = some (.string (strOfNums (K i).dt)) ∧ w.cell? ⟨g, i * 3 + 2, none⟩ = some ev ∧ EntRow D w ev (K i).en := h.2
/-- Three new blocks. -/
theorem three_new (w : World) (a b c : Obj) : Below w.heap.size w (((w.alloc a).alloc b).alloc c) ∧ (((w.alloc a).alloc b).alloc c).heap[w.heap.size]? = some a ∧ (((w.alloc a).alloc b).alloc c).heap[w.heap.size + 1]? = some b ∧
    (((w.alloc a).alloc b).alloc c).heap[w.heap.size + 1 + 1]? = some c ∧ (((w.alloc a).alloc b).alloc c).heap.size = w.heap.size + 3 := by
  refine ⟨(((Below.refl _ w).alloc (Nat.le_refl _) _).alloc (by simp) _).alloc (by simp; omega) _, ?_, ?_, ?_, by simp⟩
  · show (((w.heap.push _).push _).push _)[_]? = _
    rw [Array.getElem?_push, if_neg (by simp <;> omega), Array.getElem?_push, if_neg (by simp <;> omega), Array.getElem?_push, if_pos rfl]
  · show (((w.heap.push _).push _).push _)[_]? = _
    rw [Array.getElem?_push, if_neg (by simp <;> omega), Array.getElem?_push, if_pos (by simp)]
  · show (((w.heap.push _).push _).push _)[_]? = _
    rw [Array.getElem?_push, if_pos (by simp)]
/-- What a call has laid of entries. -/
structure PutSt (w3 wy : World) (lv : Value) (R : List (ByteArray × Nat)) : Prop where
  own : wy.ownsRow w3.heap.size 95 2 lv R.length (entCells R)
  bel : Below w3.heap.size w3 wy
theorem PutSt.push {w3 wy w' : World} {lv v' : Value} {R : List (ByteArray × Nat)} {x : ByteArray × Nat} {o : Obj} (h : PutSt w3 wy lv R) (h2 : w'.ownsRow w3.heap.size 95 2 v' (R.length + 1) (entCells R ++ [.string x.1, .int .i64 x.2])) (h3 : Fr (fun y => lv.ownBlock = some y) (wy.alloc o) w') : PutSt w3 w' v' (R ++ [x]) := by
  refine ⟨by rw [List.length_append, entCells_append]; exact h2, h.bel.trans ?_⟩
  have h4 : Fr (fun y => lv.ownBlock = some y) wy w' := ((Fr.refl _ wy).alloc o).trans h3
  exact h4.toBelow h.bel.size fun y hy => (World.ownsRow.lt h.own y hy).1
theorem own_low {w3 wy : World} {lv : Value} {R : List (ByteArray × Nat)} {o : Obj} (h : PutSt w3 wy lv R) : w3.heap.size ≤ (wy.alloc o).heap.size := Nat.le_trans h.bel.size ((Fr.refl (fun _ => False) wy).alloc o).size
theorem srcE (wy : World) (x : ByteArray × Nat) : SrcG 2 (wy.alloc (.cells #[.string x.1, .int .i64 x.2] 95 (0, 0))) (.slice (some ⟨wy.heap.size, 0, none⟩) 1 1) 1 (entCells [x]) := SrcG.block (xs := entCells [x]) (blk_new rfl) rfl entCells_one
/-- What the last steps of put and cut meet: the node's new entries, the call of with, the answer's block. -/
theorem put_last {w3 wy : World} {lv tv : Value} {R : List (ByteArray × Nat)} {d : Nat} {f : ByteArray → Option Nat} {e0 : Value} (h : RefIs D w tv cap K) (hd : d < cap) (hp : PutSt w3 wy lv R) (hR : EntL f R) (hl : R.length ≤ 1000000)
    (hF : Below w.heap.size w w3 ∧ w3.heap[w.heap.size]? = some (.cells #[tv] 30 (0, 0)) ∧ w3.heap[w.heap.size + 1]? = some (.cells #[.slice none 0 0] 30 (0, 0)) ∧
      w3.heap[w.heap.size + 1 + 1]? = some (.cells #[.int .i64 (K d).kd, .string (strOfNums (K d).dt), e0] 74 (0, 0)) ∧ w3.heap.size = w.heap.size + 3) :
    wy.cell? ⟨w.heap.size, 0, none⟩ = some tv ∧ wy.cell? ⟨w.heap.size + 1 + 1, 0, none⟩ = some (.int .i64 (K d).kd) ∧ wy.cell? ⟨w.heap.size + 1 + 1, 1, none⟩ = some (.string (strOfNums (K d).dt)) ∧ wy.cell? ⟨w.heap.size + 1 + 1, 2, none⟩ = some e0 ∧ wy.frozen? ⟨w.heap.size + 1 + 1, 2, none⟩ = false ∧
    Calls Tryz.prog 55 #[.agg #[tv], .int .i64 d, .agg #[.int .i64 (K d).kd, .string (strOfNums (K d).dt), lv]] (wy.setCell ⟨w.heap.size + 1 + 1, 2, none⟩ lv) (fun e w6 => ∃ a c, e = .returned (.agg #[.slice a cap c]) ∧ w6.cell? ⟨w.heap.size + 1, 0, none⟩ = some (.slice none 0 0) ∧ w6.frozen? ⟨w.heap.size + 1, 0, none⟩ = false ∧
      RefIs (fun b => D b ∨ w.heap.size ≤ b) (w6.setCell ⟨w.heap.size + 1, 0, none⟩ (.slice a cap c)) (.slice a cap c) cap (setK K d ⟨(K d).kd, (K d).dt, f⟩) ∧ Below w.heap.size w (w6.setCell ⟨w.heap.size + 1, 0, none⟩ (.slice a cap c)) ∧
      (w6.setCell ⟨w.heap.size + 1, 0, none⟩ (.slice a cap c)).heap[w.heap.size + 1]? = some (.cells #[.slice a cap c] 30 (0, 0))) := by
  obtain ⟨f0, f1, f2, f3, f4⟩ := hF
  have b0 := (hp.bel.block _ (blk_lt f1)).trans f1
  have b1 := (hp.bel.block _ (blk_lt f2)).trans f2
  have b2 := (hp.bel.block _ (blk_lt f3)).trans f3
  have hby : Below w.heap.size w wy := f0.trans (hp.bel.mono f0.size)
  have hs : w3.heap.size ≤ wy.heap.size := hp.bel.size
  refine ⟨cell_blk_some b0 rfl, cell_blk_some b2 rfl, cell_blk_some b2 rfl, cell_blk_some b2 rfl, free_blk b2, ?_⟩
  have hf5 : Fr (fun b => b = w.heap.size + 1 + 1) wy (wy.setCell ⟨w.heap.size + 1 + 1, 2, none⟩ lv) := (Fr.refl (fun b => b = w.heap.size + 1 + 1) wy).setCell ⟨w.heap.size + 1 + 1, 2, none⟩ rfl lv
  have h5 : Below w.heap.size w (wy.setCell ⟨w.heap.size + 1 + 1, 2, none⟩ lv) := hby.trans (hf5.toBelow hby.size fun x hx => by omega)
  have hq : RefIs (fun b => (D b ∧ b < w.heap.size) ∨ w3.heap.size ≤ b) (wy.setCell ⟨w.heap.size + 1 + 1, 2, none⟩ lv) tv cap K := (h.mono fun b hb hD => .inl ⟨hD, hb⟩).below h5
  have he : EntRow (fun b => (D b ∧ b < w.heap.size) ∨ w3.heap.size ≤ b) (wy.setCell ⟨w.heap.size + 1 + 1, 2, none⟩ lv) lv f :=
    EntRow.own (own_frame hp.own hf5 fun g hg e => by have := (World.ownsRow.lt hp.own g hg).1; omega) hR hl fun b hb => .inr hb
  refine (with_any hq hd (n := ⟨(K d).kd, (K d).dt, f⟩) he).mono ?_
  rintro e w6 ⟨v', rfl, hr6, hb6⟩
  obtain ⟨-, g6, c6, rfl, -⟩ := id hr6
  have r5 := (hf5.block (w.heap.size + 1) (blk_lt b1) (by omega)).trans b1
  have r6 := (hb6.block _ (blk_lt r5)).trans r5
  have hs5 : (wy.setCell ⟨w.heap.size + 1 + 1, 2, none⟩ lv).heap.size = wy.heap.size := by unfold World.setCell; simp
  have hf7 : Fr (fun b => b = w.heap.size + 1) w6 (w6.setCell ⟨w.heap.size + 1, 0, none⟩ (.slice (some ⟨g6, 0, none⟩) cap c6)) := (Fr.refl (fun b => b = w.heap.size + 1) w6).setCell ⟨w.heap.size + 1, 0, none⟩ rfl _
  have h6 : Below w.heap.size w w6 := below_call h5 hb6 (Nat.le_refl _)
  refine ⟨_, c6, rfl, cell_blk_some r6 rfl, free_blk r6, ?_, h6.trans (hf7.toBelow h6.size fun x hx => by omega), blk_set r6 _⟩
  refine (hr6.fr hf7 fun b hb hs' => ?_).mono fun b _ hb => ?_
  · rcases hb with (⟨-, hb⟩ | hb) | hb
    · omega
    · omega
    · rw [hs5] at hb; omega
  · rcases hb with (⟨hb, -⟩ | hb) | hb
    · exact .inl hb
    · exact .inr (by omega)
    · exact .inr (by rw [hs5] at hb; omega)
set_option maxHeartbeats 4000000 in
set_option maxRecDepth 100000 in
theorem put_any (h : RefIs D w v cap K) {d : Nat} (hd : d < cap) (s : ByteArray) (i : Nat) (hno : (K d).en s = none) (hfew : ∀ L, EntL (K d).en L → L.length ≤ 900000) :
    Calls Tryz.prog 54 #[treeV v, .int .i64 d, .string s, .int .i64 i] w fun e w' => ∃ v', e = .returned (treeV v') ∧ RefIs (fun b => D b ∨ w.heap.size ≤ b) w' v' cap (setK K d ⟨(K d).kd, (K d).dt, updE (K d).en s (some i)⟩) ∧ Below w.heap.size w w' := by
  have hcap := h.1
  obtain ⟨g, c, hvv, hD, hg, hn⟩ := h.at_
  subst hvv
  obtain ⟨ev, c0, c1, c2, L, hL, hlen, a, ce, rfl, hr⟩ := hn d hd
  have hlen9 := hfew L hL
  have H := Lib.hid h; have HL := Lib.hid hL; have HR := Lib.hid hr
  clear h hL hr hn hfew
  have d0 : (0 : Int) ≤ (d : Int) := by omega
  have d1 : (d : Int) < (cap : Int) := by omega
  unfold treeV
  go_enter Tryz.func54, Tryz.ntmps54
  have HF := Lib.hid (three_new w (.cells #[.slice (some ⟨g, 0, none⟩) cap c] 30 (0, 0)) (.cells #[.slice none 0 0] 30 (0, 0)) (.cells #[.int .i64 (K d).kd, .string (strOfNums (K d).dt), .slice a L.length ce] 74 (0, 0)))
  go_wp2_with fail
  obtain ⟨w3, hw3⟩ : ∃ w3, w3 = ((w.alloc (.cells #[.slice (some ⟨g, 0, none⟩) cap c] 30 (0, 0))).alloc (.cells #[.slice none 0 0] 30 (0, 0))).alloc (.cells #[.int .i64 (K d).kd, .string (strOfNums (K d).dt), .slice a L.length ce] 74 (0, 0)) := ⟨_, rfl⟩
  rw [← hw3] at HF ⊢
  clear hw3
  go_loopw [10, 11, 21] (fun lv dv idx wy => ∃ (k : Nat) (b : Bool) (R : List (ByteArray × Nat)), k ≤ L.length ∧ idx = .int .i64 k ∧ dv = .bool b ∧ InsR L s i k b R ∧ PutSt w3 wy lv R) (fun _ _ idx _ => L.length - (RowKit.intOf idx).toNat)
  case atStart => exact ⟨0, false, [], by omega, rfl, rfl, .start, ⟨rfl, .inl ⟨rfl, rfl⟩⟩, Below.refl _ _⟩
  case round =>
    obtain ⟨k, b, R, hk, rfl, rfl, hins, hst⟩ := hrel
    have HI := Lib.hid hins; have HST := Lib.hid hst
    have hbw := hst.bel
    have b1 := (hbw.block (w.heap.size + 1 + 1) (blk_lt HF.out.2.2.2.1)).trans HF.out.2.2.2.1
    have k2 := cell_blk_some b1 (i := 2) rfl
    have HRL := Lib.hid (hins.len hk)
    clear hins hst b1 hbw
    by_cases hlt : k < L.length
    · obtain ⟨ge, oe, rfl, hDe, hge, hcell⟩ := HR.out (by omega)
      obtain ⟨x, hx⟩ : ∃ x, L[k]? = some x := ⟨_, List.getElem?_eq_getElem hlt⟩
      obtain ⟨e0, e1⟩ := hcell k x hx
      have HX := Lib.hid hx; have HE0 := Lib.hid e0; have HE1 := Lib.hid e1
      have HBW := Lib.hid (HF.out.1.trans (HST.out.bel.mono HF.out.1.size))
      have p0 := (World.cell?_of_block (w := w) (a := ⟨ge, oe + k * 2, none⟩) (HBW.out.block ge hge)).trans e0
      have p1 := (World.cell?_of_block (w := w) (a := ⟨ge, oe + k * 2 + 1, none⟩) (HBW.out.block ge hge)).trans e1
      have HGE := Lib.hid hge
      clear hx hcell e0 e1 hge
      have hk0 : (0 : Int) ≤ (k : Int) := by omega
      have hk1 : (k : Int) < (L.length : Int) := by omega
      cases b with
      | true =>
        have HI2 := Lib.hid (HI.out.more HX.out)
        have HOA := Lib.hid (own_frame HST.out.own (S := fun _ => False) ((Fr.refl _ wr).alloc (.cells #[.string x.1, .int .i64 x.2] 95 (0, 0))) fun _ _ => id)
        clear HI HE0 HE1
        go_wp2_with (refine wpList_append_g (by rfl) (.tmp 42) (.tmp 48) (by rfl) elEnt (by rfl) HOA.out (by rfl) (srcE wr x) (by have := HRL.out; unfold maxLen; omega) (by have := HRL.out; omega) (own_low HST.out) ?_)
        rintro v' w' h2 h3 -
        have HP2 := Lib.hid (HST.out.push h2 h3)
        clear h2 h3 HOA
        go_wp2_with fail
        go_roundw
        case rel => exact ⟨k + 1, true, R ++ [x], by omega, by go_num, rfl, HI2.out, HP2.out⟩
        case measure => simp only [RowKit.intOf]; omega
      | false =>
        by_cases hcmp : s.data.toList < x.1.data.toList
        · have hq := less_true hcmp
          have HI2 := Lib.hid (HI.out.put HX.out hcmp)
          have HOA := Lib.hid (own_frame HST.out.own (S := fun _ => False) ((Fr.refl _ wr).alloc (.cells #[.string s, .int .i64 i] 95 (0, 0))) fun _ _ => id)
          clear HI hcmp
          go_wp2_with (refine wpList_append_g (by rfl) (.tmp 36) (.tmp 40) (by rfl) elEnt (by rfl) HOA.out (by rfl) (srcE wr (s, i)) (by have := HRL.out; unfold maxLen; omega) (by have := HRL.out; omega) (own_low HST.out) ?_)
          rintro v1 w1 h2 h3 -
          have hp1 := HST.out.push (x := (s, i)) h2 h3
          have HP1 := Lib.hid hp1
          have hbw1 := HF.out.1.trans (hp1.bel.mono HF.out.1.size)
          have b1 := (hp1.bel.block (w.heap.size + 1 + 1) (blk_lt HF.out.2.2.2.1)).trans HF.out.2.2.2.1
          have k2' := cell_blk_some b1 (i := 2) rfl
          have p0' := (World.cell?_of_block (w := w) (a := ⟨ge, oe + k * 2, none⟩) (hbw1.block ge HGE.out)).trans HE0.out
          have p1' := (World.cell?_of_block (w := w) (a := ⟨ge, oe + k * 2 + 1, none⟩) (hbw1.block ge HGE.out)).trans HE1.out
          have HOB := Lib.hid (own_frame hp1.own (S := fun _ => False) ((Fr.refl _ w1).alloc (.cells #[.string x.1, .int .i64 x.2] 95 (0, 0))) fun _ _ => id)
          clear h2 h3 HOA hp1 hbw1 b1 p0 p1 k2 HE0 HE1
          go_wp2_with (refine wpList_append_g (by rfl) (.tmp 42) (.tmp 48) (by rfl) elEnt (by rfl) HOB.out (by rfl) (srcE w1 x) (by have := HRL.out; unfold maxLen; simp; omega) (by have := HRL.out; simp; omega) (own_low HP1.out) ?_)
          rintro v' w' h2 h3 -
          have HP2 := Lib.hid (HP1.out.push (x := x) (by rw [List.length_append]; exact h2) h3)
          clear h2 h3 HOB
          go_wp2_with fail
          go_roundw
          case rel => exact ⟨k + 1, true, R ++ [(s, i)] ++ [x], by omega, by go_num, rfl, HI2.out, HP2.out⟩
          case measure => simp only [RowKit.intOf]; omega
        · have hq := less_false hcmp
          have HI2 := Lib.hid (HI.out.keep HX.out hcmp)
          have HOA := Lib.hid (own_frame HST.out.own (S := fun _ => False) ((Fr.refl _ wr).alloc (.cells #[.string x.1, .int .i64 x.2] 95 (0, 0))) fun _ _ => id)
          clear HI HE0 HE1 hcmp
          go_wp2_with (refine wpList_append_g (by rfl) (.tmp 42) (.tmp 48) (by rfl) elEnt (by rfl) HOA.out (by rfl) (srcE wr x) (by have := HRL.out; unfold maxLen; omega) (by have := HRL.out; omega) (own_low HST.out) ?_)
          rintro v' w' h2 h3 -
          have HP2 := Lib.hid (HST.out.push h2 h3)
          clear h2 h3 HOA
          go_wp2_with fail
          go_roundw
          case rel => exact ⟨k + 1, false, R ++ [x], by omega, by go_num, rfl, HI2.out, HP2.out⟩
          case measure => simp only [RowKit.intOf]; omega
    · obtain rfl : k = L.length := by omega
      have HNO := Lib.hid hno
      clear hno hk hlt c0 c1 c2
      cases b with
      | true =>
        have HEN := Lib.hid (HI.out.done HL.out HNO.out)
        obtain ⟨la, lc, rfl⟩ := own_shape HST.out.own
        obtain ⟨z0, z1, z2, z3, z4, z5⟩ := put_last H.out hd HST.out HEN.out (by have := HRL.out; omega) HF.out
        have HW := Lib.hid z5
        clear z5 HI HL HNO k2
        go_wp2_with fail
        refine HW.out.mono ?_
        rintro e w6 ⟨a6, c6, rfl, y0, y1, y2, y3, y4⟩
        have HY2 := Lib.hid y2; have HY3 := Lib.hid y3; have HY4 := Lib.hid y4
        clear z0 z1 z2 z3 z4 y2 y3 y4
        go_wp2_with fail
        refine bodyPost_ret (results_cell_row rfl _ _ (w.heap.size + 1) _ _ _ _ rfl HY4.out Tryz.underlying30 rfl (by kernel_rfl)) rfl ?_
        exact ⟨_, rfl, HY2.out, HY3.out⟩
      | false =>
        have HEN := Lib.hid (HI.out.last HL.out HNO.out)
        have HOA := Lib.hid (own_frame HST.out.own (S := fun _ => False) ((Fr.refl _ wr).alloc (.cells #[.string s, .int .i64 i] 95 (0, 0))) fun _ _ => id)
        clear HI HL HNO k2
        go_wp2_with (refine wpList_append_g (by rfl) (.tmp 53) (.tmp 57) (by rfl) elEnt (by rfl) HOA.out (by rfl) (srcE wr (s, i)) (by have := HRL.out; unfold maxLen; omega) (by have := HRL.out; omega) (own_low HST.out) ?_)
        rintro v1 w1 h2 h3 -
        have hp1 := HST.out.push (x := (s, i)) h2 h3
        obtain ⟨la, lc, rfl⟩ := own_shape h2
        obtain ⟨z0, z1, z2, z3, z4, z5⟩ := put_last H.out hd hp1 HEN.out (by rw [List.length_append]; have := HRL.out; simp; omega) HF.out
        have HW := Lib.hid z5
        clear z5 h2 h3 hp1 HOA
        go_wp2_with fail
        refine HW.out.mono ?_
        rintro e w6 ⟨a6, c6, rfl, y0, y1, y2, y3, y4⟩
        have HY2 := Lib.hid y2; have HY3 := Lib.hid y3; have HY4 := Lib.hid y4
        clear z0 z1 z2 z3 z4 y2 y3 y4
        go_wp2_with fail
        refine bodyPost_ret (results_cell_row rfl _ _ (w.heap.size + 1) _ _ _ _ rfl HY4.out Tryz.underlying30 rfl (by kernel_rfl)) rfl ?_
        exact ⟨_, rfl, HY2.out, HY3.out⟩
end
end Go.Proofs.YtoofcnehoffllaaGreat
