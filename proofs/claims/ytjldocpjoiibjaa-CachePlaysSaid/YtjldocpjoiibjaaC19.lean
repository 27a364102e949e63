/- What a law holds of the world at its cache: one cache's state, a key variable's cells. -/
import Derived.Test.YtjldocpjoiibjaaC18
namespace Go.Proofs.Ytjldocpjoiibjaa
open Go.RowKit

/-- A cache of the call's own; W is the world at the call. -/
structure One (W w : World) (cb : Nat) (m s : Int) (Q : List Bf) (F : Nat → Prop) : Prop where
  c : CAt w cb m s Q F
  low : ∀ x, F x → W.heap.size ≤ x
  bel : Below W.heap.size W w
section
variable {W w w' : World} {cb : Nat} {m s s' : Int} {Q Q' : List Bf} {F F' : Nat → Prop}
theorem One.step (T : One W w cb m s Q F) (h : CAt w' cb m s' Q' F') (hf : Fr F w w') (hF : ∀ x, F' x → F x ∨ w.heap.size ≤ x) : One W w' cb m s' Q' F' :=
  ⟨h, fun x hx => (hF x hx).elim (T.low x) (fun h => Nat.le_trans T.bel.size h), T.bel.trans (hf.toBelow (B := W.heap.size) T.bel.size T.low)⟩
theorem One.same (T : One W w cb m s Q F) (h : CAt w' cb m s' Q' F) (hf : Fr F w w') : One W w' cb m s' Q' F := T.step h hf fun _ hx => .inl hx
theorem One.still (T : One W w cb m s Q F) {S : Nat → Prop} (hf : Fr S w w') (hS : ∀ x, x < w.heap.size → ¬ S x) : One W w' cb m s Q F := by
  have hf' : Fr (fun _ => False) w w' := hf.mono fun x hx hs => hS x hx hs
  exact ⟨T.c.frame hf' fun _ _ h => h, T.low, T.bel.trans (hf'.toBelow (B := W.heap.size) T.bel.size fun _ h => h.elim)⟩
theorem One.below (T : One W w cb m s Q F) (hb : Below w.heap.size w w') : One W w' cb m s Q F :=
  T.still (S := fun _ => False) (Fr.below hb) fun _ _ h => h
theorem One.alloc (T : One W w cb m s Q F) (o : Obj) : One W (w.alloc o) cb m s Q F :=
  T.still (S := fun _ => False) ((Fr.refl (fun _ => False) w).alloc o) fun _ _ h => h
theorem One.drew (T : One W w cb m s Q F) : One W w.drew cb m s Q F := T.still (S := fun _ => False) (Fr.refl (fun _ => False) w).drew fun _ _ h => h
theorem One.drewN (T : One W w cb m s Q F) (n : Nat) : One W (w.drewN n) cb m s Q F := T.still (S := fun _ => False) ((Fr.refl (fun _ => False) w).drewN n) fun _ _ h => h
theorem One.setCell (T : One W w cb m s Q F) (x : Addr) (v : Value) (hx : ¬ F x.block) (hl : W.heap.size ≤ x.block) : One W (w.setCell x v) cb m s Q F :=
  ⟨T.c.frame (S := fun y => y = x.block) (Fr.setCell (S := fun y => y = x.block) (Fr.refl _ w) x rfl v) fun _ hy e => hx (e ▸ hy), T.low, T.bel.setCell hl v⟩
end

/-- A key variable: its cells, off the cache. -/
structure KeyAt (w : World) (F : Nat → Prop) (kb : Nat) (x y : Int) : Prop where
  c : w.cell? ⟨kb, 0, none⟩ = some (.int .i64 x) ∧ w.cell? ⟨kb, 1, none⟩ = some (.int .i64 y)
  off : ¬ F kb
  lt : kb < w.heap.size
section
variable {w w' : World} {F F' S : Nat → Prop} {kb : Nat} {x y : Int}
theorem key_block (h : KeyAt w F kb x y) (hb : w'.heap[kb]? = w.heap[kb]?) : w'.cell? ⟨kb, 0, none⟩ = some (.int .i64 x) ∧ w'.cell? ⟨kb, 1, none⟩ = some (.int .i64 y) :=
  ⟨(World.cell?_of_block (w := w) (a := ⟨kb, 0, none⟩) hb).trans h.c.1, (World.cell?_of_block (w := w) (a := ⟨kb, 1, none⟩) hb).trans h.c.2⟩
theorem KeyAt.step (h : KeyAt w F kb x y) (hf : Fr F w w') (hF : ∀ x, F' x → F x ∨ w.heap.size ≤ x) : KeyAt w' F' kb x y :=
  ⟨key_block h (hf.block kb h.lt h.off), fun hx => (hF kb hx).elim h.off (fun h' => by have := h.lt; omega), Nat.lt_of_lt_of_le h.lt hf.size⟩
theorem KeyAt.same (h : KeyAt w F kb x y) (hf : Fr F w w') : KeyAt w' F kb x y := h.step hf fun _ hx => .inl hx
theorem KeyAt.below (h : KeyAt w F kb x y) (hb : Below w.heap.size w w') : KeyAt w' F kb x y := h.same (Fr.below hb)
theorem KeyAt.alloc (h : KeyAt w F kb x y) (o : Obj) : KeyAt (w.alloc o) F kb x y := h.same ((Fr.refl _ w).alloc o)
theorem KeyAt.drew (h : KeyAt w F kb x y) : KeyAt w.drew F kb x y := ⟨h.c, h.off, h.lt⟩
theorem KeyAt.new {c : Array Value} {t : TypeId} {fr : Nat × Nat} (hb : w.heap[kb]? = some (.cells c t fr)) (h0 : c[0]? = some (.int .i64 x)) (h1 : c[1]? = some (.int .i64 y)) (hF : ¬ F kb) : KeyAt w F kb x y :=
  ⟨⟨cell_blk_some hb h0, cell_blk_some hb h1⟩, hF, blk_lt hb⟩
/-- A slice of bytes that a call has just made is new to the cache. -/
theorem dataNew {g : Nat} {l : List Value} (hl : l.length = 64) (h1 : ∀ u ∈ l, u.oneCell' = true) (hc : ∀ j u, l[j]? = some u → w'.cell? ⟨g, 0 + j, none⟩ = some u) (hF : ∀ x, F x → x < w.heap.size) (h0 : w.heap.size ≤ g) (hg : g < w'.heap.size) : DataAt w' F g 0 l :=
  ⟨hl, h1, hc, fun hx => by have := hF g hx; omega, hg⟩
end
theorem zeros64_len : zeros64.length = 64 := by rfl
theorem zeros64_one : ∀ u ∈ zeros64, u.oneCell' = true := fun u hu => by rw [(List.mem_replicate.1 hu).2]; rfl
theorem part64_len (x : Int) : (part64 x 64).length = 64 := by rfl
theorem part64_one (x : Int) : ∀ u ∈ part64 x 64, u.oneCell' = true := fun u hu => by
  rcases List.mem_append.1 hu with h | h <;> (rw [(List.mem_replicate.1 h).2]; rfl)
end Go.Proofs.Ytjldocpjoiibjaa
