/- What a call leaves as it was: all blocks but those of a set; a block's object exchanged. Whatever the program. -/
import Derived.Test.YtoofcnehoffllaaGreatBase
namespace Go.Proofs.YtoofcnehoffllaaGreat
open Go.RowKit

/-- But for the blocks in S, nothing that was there has turned. -/
structure Fr (S : Nat → Prop) (w w' : World) : Prop where
  os : w'.os = w.os
  tape : w'.tape = w.tape
  output : w'.output = w.output
  size : w.heap.size ≤ w'.heap.size
  block : ∀ b, b < w.heap.size → ¬ S b → w'.heap[b]? = w.heap[b]?
theorem Fr.refl (S : Nat → Prop) (w : World) : Fr S w w := ⟨rfl, rfl, rfl, Nat.le_refl _, fun _ _ _ => rfl⟩
theorem Fr.trans {S : Nat → Prop} {a b c : World} (h : Fr S a b) (k : Fr S b c) : Fr S a c :=
  ⟨k.os.trans h.os, k.tape.trans h.tape, k.output.trans h.output, Nat.le_trans h.size k.size, fun x hx hs => (k.block x (Nat.lt_of_lt_of_le hx h.size) hs).trans (h.block x hx hs)⟩
theorem Fr.mono {S S' : Nat → Prop} {a b : World} (h : Fr S a b) (hs : ∀ x, x < a.heap.size → S x → S' x) : Fr S' a b :=
  ⟨h.os, h.tape, h.output, h.size, fun x hx hn => h.block x hx fun hS => hn (hs x hx hS)⟩
theorem Fr.trans' {S S' : Nat → Prop} {a b c : World} (h : Fr S a b) (k : Fr S' b c) (hs : ∀ x, x < a.heap.size → S' x → S x) : Fr S a c :=
  ⟨k.os.trans h.os, k.tape.trans h.tape, k.output.trans h.output, Nat.le_trans h.size k.size, fun x hx hn => (k.block x (Nat.lt_of_lt_of_le hx h.size) fun e => hn (hs x hx e)).trans (h.block x hx hn)⟩
theorem Fr.drewN {S : Nat → Prop} {a b : World} (h : Fr S a b) (n : Nat) : Fr S a (b.drewN n) := ⟨h.os, h.tape, h.output, h.size, h.block⟩
theorem Fr.of_drewN {S : Nat → Prop} {a b : World} {n : Nat} (h : b = a.drewN n) : Fr S a b := by rw [h]; exact (Fr.refl S a).drewN n
theorem Fr.drew {S : Nat → Prop} {a b : World} (h : Fr S a b) : Fr S a b.drew := ⟨h.os, h.tape, h.output, h.size, h.block⟩
theorem Fr.setCell {S : Nat → Prop} {a b : World} (h : Fr S a b) (x : Addr) (hs : S x.block) (v : Value) : Fr S a (b.setCell x v) :=
  ⟨h.os, h.tape, h.output, by simpa [World.setCell] using h.size, fun y hy hn => by
    have hne : y ≠ x.block := fun e => hn (e ▸ hs)
    have := h.block y hy hn
    simp only [World.setCell, Array.getElem?_modify]
    rw [if_neg (by omega)]; exact this⟩
theorem Fr.alloc {S : Nat → Prop} {a b : World} (h : Fr S a b) (o : Obj) : Fr S a (b.alloc o) :=
  ⟨h.os, h.tape, h.output, by simp; have := h.size; omega, fun y hy hn => by
    have := h.block y hy hn
    have hlt : y < b.heap.size := Nat.lt_of_lt_of_le hy h.size
    show (b.heap.push _)[_]? = _
    rw [Array.getElem?_push, if_neg (by omega)]; exact this⟩
theorem Fr.below {S : Nat → Prop} {a b : World} (h : Below a.heap.size a b) : Fr S a b := ⟨h.os, h.tape, h.output, h.size, fun x hx _ => h.block x hx⟩
theorem Fr.toBelow {S : Nat → Prop} {B : Nat} {a b : World} (h : Fr S a b) (hB : B ≤ a.heap.size) (hs : ∀ x, S x → B ≤ x) : Below B a b :=
  ⟨h.os, h.tape, h.output, h.size, fun x hx => h.block x (by omega) fun hS => by have := hs x hS; omega⟩

theorem Fr.tell {S S' : Nat → Prop} {a b : World} (h : Fr S a b) (hs : ∀ x, S x → S' x) : Fr S' a b := h.mono fun x _ => hs x
/-- A block's object exchanged. -/
def setB (w : World) (b : Nat) (o : Obj) : World := { w with heap := w.heap.setIfInBounds b o }
theorem setB_at {w : World} {b : Nat} {o : Obj} (h : b < w.heap.size) : (setB w b o).heap[b]? = some o := by
  show (w.heap.setIfInBounds b o)[b]? = _
  rw [Array.getElem?_setIfInBounds, if_pos rfl, if_pos h]
theorem setB_other {w : World} {b x : Nat} {o : Obj} (h : x ≠ b) : (setB w b o).heap[x]? = w.heap[x]? := by
  show (w.heap.setIfInBounds b o)[x]? = _
  rw [Array.getElem?_setIfInBounds, if_neg (Ne.symm h)]
theorem Fr.setB (w : World) (b : Nat) (o : Obj) : Fr (fun x => x = b) w (setB w b o) :=
  ⟨rfl, rfl, rfl, by show _ ≤ (w.heap.setIfInBounds b o).size; rw [Array.size_setIfInBounds]; exact Nat.le_refl _, fun x _ hx => setB_other hx⟩
theorem blk_old_eq {w : World} {o : Obj} {b : Nat} (h : b < w.heap.size) : (w.alloc o).heap[b]? = w.heap[b]? := by
  show (w.heap.push _)[_]? = _; rw [Array.getElem?_push, if_neg (by omega)]
theorem own_frame {w w' : World} {S : Nat → Prop} {B : Nat} {v : Value} {n k : Nat} {xs : List Value} {e : TypeId} (h : w.ownsRow B e k v n xs) (hf : Fr S w w') (hs : ∀ g, v.ownBlock = some g → ¬ S g) : w'.ownsRow B e k v n xs := by
  refine ⟨h.1, ?_⟩
  rcases h.2 with hn | ⟨g, cap, cur, rfl, h0, hg, r⟩
  · exact .inl hn
  · exact .inr ⟨g, cap, cur, rfl, h0, by rw [hf.block g (blk_lt hg) (hs g rfl)]; exact hg, r⟩
end Go.Proofs.YtoofcnehoffllaaGreat
