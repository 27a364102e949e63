/- Rows that operations of a drawing region hold, told apart by labels on blocks. -/
import Derived.Test.YtklamgijikcnaaaDoorInv
import Derived.Test.YtklamgijikcnaaaDoorGRows
namespace Go.Proofs.YtklamgijikcnaaaDoor
open Go.RowKit

def updT (tag : Nat → Nat) (b c : Nat) : Nat → Nat := fun g => if g = b then c else tag g
theorem updT_self {tag : Nat → Nat} {b c : Nat} : updT tag b c b = c := if_pos rfl
theorem updT_other {tag : Nat → Nat} {b c g : Nat} (h : g ≠ b) : updT tag b c g = tag g := if_neg h
/-- From one moment to a later one: S is what has been written, old blocks keep their labels. -/
structure Ext (S : Nat → Prop) (tag : Nat → Nat) (w : World) (tag' : Nat → Nat) (w' : World) : Prop where
  fr : Fr S w w'
  tg : ∀ g, g < w.heap.size → tag' g = tag g
theorem Ext.upd {S : Nat → Prop} {tag : Nat → Nat} {w w' : World} (hf : Fr S w w') (c : Nat) : Ext S tag w (updT tag w.heap.size c) w' :=
  ⟨hf, fun g hg => updT_other (by omega)⟩
theorem Ext.alloc {tag : Nat → Nat} {w : World} (o : Obj) (c : Nat) : Ext (fun _ => False) tag w (updT tag w.heap.size c) (w.alloc o) := Ext.upd ((Fr.refl _ w).alloc o) c
/-- x owns the ints l, in a block that bears the label c. -/
structure Hold (tag : Nat → Nat) (c : Nat) (w : World) (Z : Nat) (x : Value) (l : List Int) : Prop where
  own : OwnI w Z x l
  tg : ∀ g, x.ownBlock = some g → tag g = c
section
variable {S : Nat → Prop} {tag tag' : Nat → Nat} {c d Z b : Nat} {w w' : World} {x : Value} {l m : List Int} {o : Obj}
theorem Hold.ext (h : Hold tag d w Z x l) (e : Ext S tag w tag' w') (hs : ∀ g, S g → tag g ≠ d) : Hold tag' d w' Z x l :=
  ⟨h.own.fr e.fr fun g hg hS => hs g hS (h.tg g hg), fun g hg => by rw [e.tg g (h.own.lt g hg).2]; exact h.tg g hg⟩
theorem Hold.alloc (h : Hold tag d w Z x l) (o : Obj) (c : Nat) : Hold (updT tag w.heap.size c) d (w.alloc o) Z x l := h.ext (Ext.alloc o c) fun _ hf => hf.elim
/-- What an append to a row leaves of another one. -/
theorem Hold.other {y : Value} {k : List Int} (h : Hold tag d w Z x l) (hy : Hold tag c w Z y k) (hf : Fr (fun g => y.ownBlock = some g) w w') (hne : d ≠ c) : Hold (updT tag w.heap.size c) d w' Z x l :=
  h.ext (Ext.upd hf c) fun g hg e => hne (by rw [← e, hy.tg g hg])
theorem Hold.grow {x' : Value} (h : Hold tag c w Z x l) (ho : OwnI w' Z x' m) (hv : x'.ownBlock = x.ownBlock ∨ x'.ownBlock = some w.heap.size) : Hold (updT tag w.heap.size c) c w' Z x' m :=
  ⟨ho, fun g hg => by
    rcases hv with e | e
    · rw [e] at hg
      rw [updT_other (by have := (h.own.lt g hg).2; omega)]
      exact h.tg g hg
    · rw [e] at hg
      injection hg with hg
      subst hg
      exact updT_self⟩
theorem Hold.new (tag : Nat → Nat) (c : Nat) (w : World) (Z : Nat) (cs : Array Value) (l : List Int) (hl : cs.toList = ints l) (hZ : Z ≤ w.heap.size) (hm : l.length ≤ maxLen := by first | decide | (unfold maxLen; simp)) :
    Hold (updT tag w.heap.size c) c (w.alloc (.cells cs 3)) Z (.slice (some ⟨w.heap.size, 0, none⟩) l.length l.length) l :=
  ⟨own_block (xs := ints l) (by rw [← hl]; exact blk_new rfl) (by rw [ints_length]; omega) rfl hZ hm, fun g hg => by
    injection hg with hg
    subst hg
    exact updT_self⟩
theorem Fr.zero (h : Fr S w w') (hZ : ∀ g, S g → Z ≤ g) {w0 : World} (h0 : Fr (fun _ => False) w0 w) (hz : w0.heap.size ≤ Z) : Fr (fun _ => False) w0 w' :=
  h0.trans' (h.mono fun _ _ h => h) fun g hg hS => by have := hZ g hS; omega
theorem Hold.low {tb : Nat} (h : Hold tag d w Z x l) (hf : Fr (fun g => g = tb) w w') (ht : tb < Z) : Hold tag d w' Z x l :=
  ⟨h.own.fr hf fun g hg e => by have := (h.own.lt g hg).1; omega, h.tg⟩
/-- One old block, tb, that the region writes at its end. -/
theorem allocI {tb : Nat} {b : Bool} {w0 : World} {ob : Obj} (h : Fr (fun g => g = tb) w0 w ∧ (b = false → w.heap[tb]? = w0.heap[tb]?)) (ht : w0.heap[tb]? = some ob) (o : Obj) :
    Fr (fun g => g = tb) w0 (w.alloc o) ∧ (b = false → (w.alloc o).heap[tb]? = w0.heap[tb]?) :=
  ⟨h.1.alloc o, fun hb => by rw [blk_old_eq (Nat.lt_of_lt_of_le (blk_lt ht) h.1.size)]; exact h.2 hb⟩
theorem growI {tb : Nat} {b : Bool} {w0 : World} {ob : Obj} {y : Value} (h : Fr (fun g => g = tb) w0 w ∧ (b = false → w.heap[tb]? = w0.heap[tb]?)) (hf : Fr (fun g => y.ownBlock = some g) w w') (ht : w0.heap[tb]? = some ob) (hz : w0.heap.size = Z) (hy : ∀ g, y.ownBlock = some g → Z ≤ g) :
    Fr (fun g => g = tb) w0 w' ∧ (b = false → w'.heap[tb]? = w0.heap[tb]?) := by
  have hl := blk_lt ht
  refine ⟨h.1.trans' hf fun g hg hS => ?_, fun hb => ?_⟩
  · have := hy g hS; omega
  · rw [hf.block tb (Nat.lt_of_lt_of_le hl h.1.size) fun hS => by have := hy tb hS; omega]
    exact h.2 hb
/-- A block that bears the label c. -/
structure Blk (tag : Nat → Nat) (c : Nat) (w : World) (b : Nat) (o : Obj) : Prop where
  blk : w.heap[b]? = some o
  tg : tag b = c
theorem Blk.ext (h : Blk tag d w b o) (e : Ext S tag w tag' w') (hs : ∀ g, S g → tag g ≠ d) : Blk tag' d w' b o :=
  ⟨by rw [e.fr.block b (blk_lt h.blk) fun hS => hs b hS h.tg]; exact h.blk, by rw [e.tg b (blk_lt h.blk)]; exact h.tg⟩
theorem Blk.alloc (h : Blk tag d w b o) (o' : Obj) (c : Nat) : Blk (updT tag w.heap.size c) d (w.alloc o') b o := h.ext (Ext.alloc o' c) fun _ hf => hf.elim
theorem Blk.other {y : Value} {k : List Int} (h : Blk tag d w b o) (hy : Hold tag c w Z y k) (hf : Fr (fun g => y.ownBlock = some g) w w') (hne : d ≠ c) : Blk (updT tag w.heap.size c) d w' b o :=
  h.ext (Ext.upd hf c) fun g hg e => hne (by rw [← e, hy.tg g hg])
end
end Go.Proofs.YtklamgijikcnaaaDoor
