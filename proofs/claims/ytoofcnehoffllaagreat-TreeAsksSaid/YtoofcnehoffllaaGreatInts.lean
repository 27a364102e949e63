/- Rows that a call owns: shape, frames, ints; an append as a step of a region that draws its order. Whatever the program. -/
/- Appends to rows of ints that the call owns: of one int, of a row; plain, and as a step of a region that draws its order. -/
import Derived.Test.YtoofcnehoffllaaGreatFr
import Derived.Deep.AppendLies
import Derived.Deep.RegionLaw
import Derived.Deep.RegionHeld3
import Derived.Deep.RegionHeldLaw
import Derived.Maps.AppendAt
namespace Go.Proofs.YtoofcnehoffllaaGreat
open Go.RowKit

section
variable {w w' : World} {B n sz : Nat} {e : TypeId} {v : Value} {xs : List Value}
theorem own_shape (h : w.ownsRow B e sz v n xs) : ∃ a c, v = .slice a n c := by
  rcases h.2 with ⟨rfl, rfl⟩ | ⟨g, cap, cur, rfl, _⟩
  · exact ⟨_, _, rfl⟩
  · exact ⟨_, _, rfl⟩
theorem own_blocks (h : w.ownsRow B e sz v n xs) : ∀ k, v.ownBlock = some k → B ≤ k ∧ k < w.heap.size := fun k hk => h.lt k hk
theorem own_set {a : Addr} (h : w.ownsRow B e sz v n xs) (ha : v.ownBlock ≠ some a.block) (u : Value) : (w.setCell a u).ownsRow B e sz v n xs := by
  refine ⟨h.1, ?_⟩
  rcases h.2 with hn | ⟨g, cap, cur, rfl, h0, hg, r⟩
  · exact .inl hn
  · exact .inr ⟨g, cap, cur, rfl, h0, blk_set_other hg (fun e => ha (by rw [← e]; rfl)) u, r⟩
/-- What an append leaves as it was. -/
theorem Fr.grown {o : Option Nat} (h : w.grownBy w' o) : Fr (fun x => o = some x) w w' := ⟨h.os, h.tape, h.output, h.size, fun y hy hn => h.block y hy fun e => hn e.symm⟩
theorem Fr.grown_own (h : w.ownsRow B e sz v n xs) (hg : w.grownBy w' v.ownBlock) : Fr (fun x => B ≤ x) w w' := (Fr.grown hg).tell fun x hx => (h.lt x hx).1
/-- A slice that is nil, or that the call owns, is not in a block of another kind. -/
theorem own_off {b : Nat} {c : Array Value} {t : TypeId} {z : Nat × Nat} (h : w.ownsRow B e sz v n xs) (hb : w.heap[b]? = some (.cells c t z)) (ht : t ≠ e) : v.ownBlock ≠ some b := fun hv => by
  rcases h.2 with ⟨rfl, _⟩ | ⟨g, cap, cur, rfl, h0, hg, r⟩
  · cases hv
  · injection hv with hv
    subst hv
    rw [hb] at hg
    injection hg with hg
    injection hg with _ hg _
    exact ht hg
theorem own_off_map {b : Nat} {es : Array MapEntry} {z : Nat} (h : w.ownsRow B e sz v n xs) (hb : w.heap[b]? = some (.map es z)) : v.ownBlock ≠ some b := fun hv => by
  rcases h.2 with ⟨rfl, _⟩ | ⟨g, cap, cur, rfl, h0, hg, r⟩
  · cases hv
  · injection hv with hv
    subst hv
    rw [hb] at hg
    injection hg with hg
    cases hg
end
def ints (l : List Int) : List Value := l.map (Value.int .i64)
theorem ints_length (l : List Int) : (ints l).length = l.length := List.length_map ..
theorem ints_one (l : List Int) : ∀ u ∈ ints l, u.oneCell' = true := fun u hu => by
  obtain ⟨z, _, rfl⟩ := List.mem_map.1 hu; rfl
theorem ints_append (l m : List Int) : ints (l ++ m) = ints l ++ ints m := List.map_append ..
theorem ints_at {l : List Int} {j : Nat} {x : Int} (h : l[j]? = some x) : (ints l)[j]? = some (.int .i64 x) := by unfold ints; rw [List.getElem?_map, h]; rfl
/-- The slice v reads as the ints l (in a block of the call's own, from B on, or it is nil). -/
def IntsAt (E : TypeId) (w : World) (B : Nat) (v : Value) (l : List Int) : Prop := w.ownsRow B E 1 v l.length (ints l)
section
variable {E : TypeId} {w w' : World} {B : Nat} {v : Value} {l : List Int}
theorem IntsAt.nil (E : TypeId) (w : World) (B : Nat) : IntsAt E w B (.slice none 0 0) [] := ⟨rfl, .inl ⟨rfl, rfl⟩⟩
theorem IntsAt.fr {S : Nat → Prop} (h : IntsAt E w B v l) (hf : Fr S w w') (hs : ∀ g, v.ownBlock = some g → ¬ S g) : IntsAt E w' B v l := own_frame h hf hs
theorem IntsAt.below (h : IntsAt E w B v l) (hb : Below w.heap.size w w') : IntsAt E w' B v l := h.fr (S := fun _ => False) (Fr.below hb) fun _ _ => id
theorem IntsAt.mono {B' : Nat} (h : IntsAt E w B v l) (hb : B' ≤ B) : IntsAt E w B' v l := own_mono h hb
theorem IntsAt.shape (h : IntsAt E w B v l) : ∃ a c, v = .slice a l.length c := own_shape h
theorem IntsAt.lt (h : IntsAt E w B v l) : ∀ k, v.ownBlock = some k → B ≤ k ∧ k < w.heap.size := World.ownsRow.lt h
/-- Where it isn't empty: its block, and what its cells hold. -/
theorem IntsAt.cells (h : IntsAt E w B v l) (hl : 0 < l.length) : ∃ g c, v = .slice (some ⟨g, 0, none⟩) l.length c ∧ l.length ≤ c ∧ B ≤ g ∧ g < w.heap.size ∧ (∀ (j : Nat) x, l[j]? = some x → w.cell? ⟨g, j, none⟩ = some (.int .i64 x)) ∧ ∀ j, w.frozen? ⟨g, j, none⟩ = false := by
  rcases h.2 with ⟨_, h0⟩ | ⟨g, cap, cur, rfl, h0, hg, hc, _, _, ht⟩
  · omega
  · refine ⟨g, cap, rfl, hc, h0, blk_lt hg, fun j x hj => ?_, fun j => free_blk hg⟩
    have hjl := (List.getElem?_eq_some_iff.1 hj).1
    refine cell_blk_some hg ?_
    have h1 : (List.take (l.length * 1) cur.toList)[j]? = (ints l)[j]? := by rw [ht]
    rw [ints_at hj, List.getElem?_take_of_lt (by omega), Array.getElem?_toList] at h1
    exact h1
end
end Go.Proofs.YtoofcnehoffllaaGreat

namespace Go.Proofs.YtoofcnehoffllaaGreat
open Go.RowKit

abbrev OwnI (w : World) (B : Nat) (v : Value) (l : List Int) : Prop := IntsAt 3 w B v l
section
variable {ops : Array Oper} {rest : List Oper} {o : Oper} {a : Act} {w : World} {K : Act → World → Prop} {Q : Exit → Act → World → Prop} {E : Prop} {B : Nat} {v : Value} {l m : List Int}
/-- The slice v reads as the ints l, from the head of a block from B on (which may be longer); or l is empty. -/
def RowI (w : World) (B : Nat) (v : Value) (l : List Int) : Prop :=
  ∃ a c, v = .slice a l.length c ∧ l.length ≤ c ∧ (0 < l.length → ∃ g cur, a = some ⟨g, 0, none⟩ ∧ B ≤ g ∧ w.heap[g]? = some (.cells cur 3 (0, 0)) ∧ cur.toList.take l.length = ints l)
theorem OwnI.row (h : OwnI w B v l) : RowI w B v l := by
  rcases h.2 with ⟨rfl, h0⟩ | ⟨g, cap, cur, rfl, h0, hg, hc, _, _, ht⟩
  · exact ⟨none, 0, by rw [h0], by omega, fun h => by omega⟩
  · exact ⟨_, cap, rfl, hc, fun _ => ⟨g, cur, rfl, h0, hg, by rw [Nat.mul_one] at ht; exact ht⟩⟩
theorem RowI.fr' {w' : World} {S : Nat → Prop} (h : RowI w B v l) (hf : Fr S w w') (hs : 0 < l.length → ∀ g, v.ownBlock = some g → ¬ S g) : RowI w' B v l := by
  obtain ⟨a, c, rfl, hc, hr⟩ := h
  refine ⟨a, c, rfl, hc, fun h0 => ?_⟩
  obtain ⟨g, cur, rfl, hB, hg, ht⟩ := hr h0
  exact ⟨g, cur, rfl, hB, by rw [hf.block g (blk_lt hg) (hs h0 g rfl)]; exact hg, ht⟩
theorem RowI.fr {w' : World} {S : Nat → Prop} (h : RowI w B v l) (hf : Fr S w w') (hs : ∀ g, v.ownBlock = some g → ¬ S g) : RowI w' B v l := h.fr' hf fun _ => hs
theorem RowI.below {w' : World} (h : RowI w B v l) (hb : Below w.heap.size w w') : RowI w' B v l := h.fr (S := fun _ => False) (Fr.below hb) fun _ _ => id
theorem RowI.mono {B' : Nat} (h : RowI w B v l) (hB : B' ≤ B) : RowI w B' v l := by
  obtain ⟨a, c, rfl, hc, hr⟩ := h
  refine ⟨a, c, rfl, hc, fun h0 => ?_⟩
  obtain ⟨g, cur, rfl, hb, r⟩ := hr h0
  exact ⟨g, cur, rfl, Nat.le_trans hB hb, r⟩
theorem RowI.shape (h : RowI w B v l) : ∃ a c, v = .slice a l.length c := by
  obtain ⟨a, c, rfl, _⟩ := h
  exact ⟨a, c, rfl⟩
theorem RowI.cells (h : RowI w B v l) (hl : 0 < l.length) : ∃ g c, v = .slice (some ⟨g, 0, none⟩) l.length c ∧ l.length ≤ c ∧ B ≤ g ∧ g < w.heap.size ∧ ∀ (j : Nat) x, l[j]? = some x → w.cell? ⟨g, j, none⟩ = some (.int .i64 x) := by
  obtain ⟨a, c, rfl, hc, hr⟩ := h
  obtain ⟨g, cur, rfl, hB, hg, ht⟩ := hr hl
  refine ⟨g, c, rfl, hc, hB, blk_lt hg, fun j x hj => ?_⟩
  have hjl := (List.getElem?_eq_some_iff.1 hj).1
  refine cell_blk_some hg ?_
  have h1 : (List.take l.length cur.toList)[j]? = (ints l)[j]? := by rw [ht]
  rw [ints_at hj, List.getElem?_take_of_lt hjl, Array.getElem?_toList] at h1
  exact h1
theorem RowI.lt (h : RowI w B v l) (hl : 0 < l.length) : ∀ k, v.ownBlock = some k → B ≤ k ∧ k < w.heap.size := fun k hk => by
  obtain ⟨g, c, rfl, _, hB, hg, _⟩ := h.cells hl
  injection hk with hk
  subst hk
  exact ⟨hB, hg⟩
/-- A row that has just been laid. -/
theorem RowI.lit {w : World} (c : Array Value) (l : List Int) (h : c.toList = ints l) : RowI (w.alloc (.cells c 3)) w.heap.size (.slice (some ⟨w.heap.size, 0, none⟩) l.length l.length) l :=
  ⟨_, _, rfl, Nat.le_refl _, fun _ => ⟨w.heap.size, c, rfl, Nat.le_refl _, blk_new rfl, by
    have : l.length = c.toList.length := by rw [h, ints_length]
    rw [this, List.take_length]; exact h⟩⟩
/-- The one int of a new block. -/
theorem news_one {w : World} {nb : Nat} {x : Int} {t : TypeId} {z : Nat × Nat} (h : w.heap[nb]? = some (.cells #[.int .i64 x] t z)) : ∀ (j : Nat) y, [x][j]? = some y → w.cell? ⟨nb, 0 + j, none⟩ = some (.int .i64 y) := fun j y hj => by
  match j, hj with
  | 0, hj => exact cell_blk_some h (by rw [← Option.some.inj hj]; rfl)
  | j + 1, hj => simp at hj
theorem run_append_of_nil (base : Nat) (t ty e : TypeId) (i : TypeInfo) (size : Nat) {P : Program} (ht : P.underlying t = some (.slice e)) (hi : P.info? e = some i)
    (v : Value) (n : Nat) (xs : List Value) (hown : w.ownsRow base e size v n xs) (c : Nat) : (Builtin.append_ #[t, t] ty #[v, .slice none 0 c]).run P w = .ok v w := by
  rcases hown.2 with ⟨rfl, rfl⟩ | ⟨g, cap, cur, rfl, _, _, hnc, _⟩
  · simp [Builtin.append_, run_underlying ht, sizeOf, typeInfo, hi, Builtin.lenOf, Builtin.firstCells]
  · simp [Builtin.append_, run_underlying ht, sizeOf, typeInfo, hi, Builtin.lenOf, Builtin.firstCells, hnc, storeCells]
end
end Go.Proofs.YtoofcnehoffllaaGreat
