/- The buffers' queue in memory; walks of its methods Len, Less, Swap. -/
import Derived.Test.YtjldocpjoiibjaaQuiet
import Derived.Test.YtjldocpjoiibjaaShelf
import Derived.Deep.RegionHeld3
import Derived.Deep.RegionHeldLaw
import Derived.Lib.Hide
namespace Go.Proofs.Ytjldocpjoiibjaa
open Go.RowKit

/-- But for the blocks in S, nothing that was there has turned. -/
structure Fr (S : Nat → Prop) (w w' : World) : Prop where
  os : w'.os = w.os
  tape : w'.tape = w.tape
  output : w'.output = w.output
  size : w.heap.size ≤ w'.heap.size
  block : ∀ b, b < w.heap.size → ¬ S b → w'.heap[b]? = w.heap[b]?
theorem Fr.refl (S : Nat → Prop) (w : World) : Fr S w w := ⟨rfl, rfl, rfl, Nat.le_refl _, fun _ _ _ => rfl⟩
theorem Fr.trans {S : Nat → Prop} {a b c : World} (h : Fr S a b) (k : Fr S b c) : Fr S a c :=
  ⟨k.os.trans h.os, k.tape.trans h.tape, k.output.trans h.output, Nat.le_trans h.size k.size, fun x hx hs => (k.block x (Nat.lt_of_lt_of_le hx h.size) hs).trans (h.block x hx hs)⟩
theorem Fr.mono {S S' : Nat → Prop} {a b : World} (h : Fr S a b) (hs : ∀ x, x < a.heap.size → S x → S' x) : Fr S' a b :=
  ⟨h.os, h.tape, h.output, h.size, fun x hx hn => h.block x hx fun hS => hn (hs x hx hS)⟩
theorem Fr.trans' {S S' : Nat → Prop} {a b c : World} (h : Fr S a b) (k : Fr S' b c) (hs : ∀ x, x < a.heap.size → S' x → S x) : Fr S a c :=
  ⟨k.os.trans h.os, k.tape.trans h.tape, k.output.trans h.output, Nat.le_trans h.size k.size, fun x hx hn => (k.block x (Nat.lt_of_lt_of_le hx h.size) fun e => hn (hs x hx e)).trans (h.block x hx hn)⟩
theorem Fr.drewN {S : Nat → Prop} {a b : World} (h : Fr S a b) (n : Nat) : Fr S a (b.drewN n) := ⟨h.os, h.tape, h.output, h.size, h.block⟩
theorem Fr.of_drewN {S : Nat → Prop} {a b : World} {n : Nat} (h : b = a.drewN n) : Fr S a b := by rw [h]; exact (Fr.refl S a).drewN n
theorem Fr.drew {S : Nat → Prop} {a b : World} (h : Fr S a b) : Fr S a b.drew := ⟨h.os, h.tape, h.output, h.size, h.block⟩
theorem Fr.setCell {S : Nat → Prop} {a b : World} (h : Fr S a b) (x : Addr) (hs : S x.block) (v : Value) : Fr S a (b.setCell x v) :=
  ⟨h.os, h.tape, h.output, by simpa [World.setCell] using h.size, fun y hy hn => by
    have hne : y ≠ x.block := fun e => hn (e ▸ hs)
    have := h.block y hy hn
    simp only [World.setCell, Array.getElem?_modify]
    rw [if_neg (by omega)]; exact this⟩
theorem Fr.alloc {S : Nat → Prop} {a b : World} (h : Fr S a b) (o : Obj) : Fr S a (b.alloc o) :=
  ⟨h.os, h.tape, h.output, by simp; have := h.size; omega, fun y hy hn => by
    have := h.block y hy hn
    have hlt : y < b.heap.size := Nat.lt_of_lt_of_le hy h.size
    show (b.heap.push _)[_]? = _
    rw [Array.getElem?_push, if_neg (by omega)]; exact this⟩
theorem Fr.below {S : Nat → Prop} {a b : World} (h : Below a.heap.size a b) : Fr S a b := ⟨h.os, h.tape, h.output, h.size, fun x hx _ => h.block x hx⟩
theorem Fr.toBelow {S : Nat → Prop} {B : Nat} {a b : World} (h : Fr S a b) (hB : B ≤ a.heap.size) (hs : ∀ x, S x → B ≤ x) : Below B a b :=
  ⟨h.os, h.tape, h.output, h.size, fun x hx => h.block x (by omega) fun hS => by have := hs x hS; omega⟩

/-- A buffer. -/
structure Bf where
  blk : Nat
  k1 : Int
  k2 : Int
  data : List Value
  dirty : Bool
  pins : Int
  stamp : Int
def Bf.cells (b : Bf) (i : Int) : Array Value := (.int .i64 b.k1 :: .int .i64 b.k2 :: (b.data ++ [.bool b.dirty, .int .i64 b.pins, .int .i64 b.stamp, .int .i64 i])).toArray
def Bf.ok (b : Bf) : Prop := b.data.length = 64
theorem Bf.size {b : Bf} (h : b.ok) (i : Int) : (b.cells i).size = 70 := by simp only [Bf.cells, List.size_toArray, List.length_cons, List.length_append, List.length_nil]; rw [show b.data.length = 64 from h]
theorem tail_at {α : Type} (l : List α) (r : List α) (n : Nat) (hl : l.length = 64) (k : Nat) (hn : n = 64 + k) : (l ++ r)[n]? = r[k]? := by
  subst hn; rw [List.getElem?_append_right (by omega)]; congr 1; omega
theorem Bf.at_dirty {b : Bf} (h : b.ok) (i : Int) : (b.cells i)[66]? = some (.bool b.dirty) := by
  show ((_ : List Value).toArray)[66]? = _
  rw [List.getElem?_toArray]; show (b.data ++ _)[64]? = _; rw [tail_at _ _ 64 h 0 rfl]; rfl
theorem Bf.at_pins {b : Bf} (h : b.ok) (i : Int) : (b.cells i)[67]? = some (.int .i64 b.pins) := by
  show ((_ : List Value).toArray)[67]? = _
  rw [List.getElem?_toArray]; show (b.data ++ _)[65]? = _; rw [tail_at _ _ 65 h 1 rfl]; rfl
theorem Bf.at_stamp {b : Bf} (h : b.ok) (i : Int) : (b.cells i)[68]? = some (.int .i64 b.stamp) := by
  show ((_ : List Value).toArray)[68]? = _
  rw [List.getElem?_toArray]; show (b.data ++ _)[66]? = _; rw [tail_at _ _ 66 h 2 rfl]; rfl
theorem Bf.at_placed {b : Bf} (h : b.ok) (i : Int) : (b.cells i)[69]? = some (.int .i64 i) := by
  show ((_ : List Value).toArray)[69]? = _
  rw [List.getElem?_toArray]; show (b.data ++ _)[67]? = _; rw [tail_at _ _ 67 h 3 rfl]; rfl
theorem set_tail {α : Type} (l r : List α) (n : Nat) (hl : l.length = 64) (k : Nat) (hn : n = 64 + k) (v : α) : (l ++ r).set n v = l ++ r.set k v := by
  subst hn; rw [List.set_append_right _ _ (by omega)]; congr 2; omega
theorem Bf.place {b : Bf} (h : b.ok) (i j : Int) : (b.cells i).setIfInBounds 69 (.int .i64 j) = b.cells j := by
  unfold Bf.cells
  rw [List.setIfInBounds_toArray]
  congr 1
  show _ :: _ :: ((b.data ++ _).set 67 _) = _
  rw [set_tail _ _ 67 h 3 rfl]; rfl

def BufAt (w : World) (b : Bf) (i : Int) : Prop := b.ok ∧ w.heap[b.blk]? = some (.cells (b.cells i) 74 (0, 0))

/-- The queue's row of pointers, in the order of the heap; each buffer knows its place. -/
structure QAt (w : World) (Q : List Bf) (qb cap : Nat) : Prop where
  row : ∃ R : Array Value, w.heap[qb]? = some (.cells R 70 (0, 0)) ∧ R.size = cap ∧ ∀ (j : Nat) (b : Bf), Q[j]? = some b → R[j]? = some (Value.pointer (some ⟨b.blk, 0, none⟩))
  fits : Q.length ≤ cap
  buf : ∀ (j : Nat) (b : Bf), Q[j]? = some b → BufAt w b j
  nodup : (qb :: Q.map (·.blk)).Nodup
theorem QAt.apart {w : World} {Q : List Bf} {qb cap : Nat} (h : QAt w Q qb cap) {j : Nat} {b : Bf} (hj : Q[j]? = some b) : b.blk ≠ qb := fun e => by
  have := h.nodup
  rw [List.nodup_cons] at this
  exact this.1 (List.mem_map.2 ⟨b, List.mem_of_getElem? hj, e⟩)
theorem QAt.inj {w : World} {Q : List Bf} {qb cap : Nat} (h : QAt w Q qb cap) {i j : Nat} {a b : Bf} (hi : Q[i]? = some a) (hj : Q[j]? = some b) (hne : i ≠ j) : a.blk ≠ b.blk := fun e => by
  have := (List.nodup_cons.1 h.nodup).2
  have h1 : (Q.map (·.blk))[i]? = some a.blk := by rw [List.getElem?_map, hi]; rfl
  have h2 : (Q.map (·.blk))[j]? = some a.blk := by rw [List.getElem?_map, hj, e]; rfl
  have hlt : i < (Q.map (·.blk)).length := (List.getElem?_eq_some_iff.1 h1).1
  exact hne ((List.getElem?_inj hlt this).1 (h1.trans h2.symm))
theorem QAt.cell {w : World} {Q : List Bf} {qb cap : Nat} (h : QAt w Q qb cap) {j : Nat} {b : Bf} (hj : Q[j]? = some b) : w.cell? ⟨qb, j, none⟩ = some (.pointer (some ⟨b.blk, 0, none⟩)) := by
  obtain ⟨R, h1, _, h3⟩ := h.row
  exact cell_blk_some h1 (h3 j b hj)
theorem QAt.stamp {w : World} {Q : List Bf} {qb cap : Nat} (h : QAt w Q qb cap) {j : Nat} {b : Bf} (hj : Q[j]? = some b) : w.cell? ⟨b.blk, 68, none⟩ = some (.int .i64 b.stamp) := by
  obtain ⟨h1, h2⟩ := h.buf j b hj
  exact cell_blk_some h2 (Bf.at_stamp h1 _)
/-- What the queue's blocks are. -/
def Qs (Q : List Bf) (qb : Nat) (x : Nat) : Prop := x = qb ∨ x ∈ Q.map (·.blk)

theorem qLen_any (a : Option Addr) (n c : Nat) (w : World) : Calls Try.prog 46 #[.slice a n c] w fun e w' => e = .returned (.int .i64 n) ∧ w' = w := by
  go_enter Try.func46, Try.ntmps46
  go_wp2_with fail
  go_ret
  exact ⟨rfl, rfl⟩

set_option maxHeartbeats 1000000 in
theorem qLess_any {w : World} {Q : List Bf} {qb cap : Nat} (h : QAt w Q qb cap) {i j : Nat} {a b : Bf} (hi : Q[i]? = some a) (hj : Q[j]? = some b) :
    Calls Try.prog 101 #[.slice (some ⟨qb, 0, none⟩) Q.length cap, .int .i64 i, .int .i64 j] w fun e w' => e = .returned (.bool (decide (a.stamp < b.stamp))) ∧ ∃ n, w' = w.drewN n := by
  have c1 := h.cell hi
  have c2 := h.cell hj
  have s1 := h.stamp hi
  have s2 := h.stamp hj
  have l1 : i < Q.length := (List.getElem?_eq_some_iff.1 hi).1
  have l2 : j < Q.length := (List.getElem?_eq_some_iff.1 hj).1
  have m1 : (i : Int) < (Q.length : Int) := by omega
  have m2 : (j : Int) < (Q.length : Int) := by omega
  have m3 : (0 : Int) ≤ (i : Int) := by omega
  have m4 : (0 : Int) ≤ (j : Int) := by omega
  clear h hi hj
  go_enter Try.func101, Try.ntmps101
  go_wp2_with fail
  go_quiet (fail)
  go_wp2_with fail
  go_ret
  exact ⟨rfl, _, rfl⟩
end Go.Proofs.Ytjldocpjoiibjaa
