/- Walk of marllaw09.play: kinds 2 to 6, and none of them. -/
import Derived.Test.YtjldocpjoiibjaaC35
namespace Go.Proofs.Ytjldocpjoiibjaa
open Go.RowKit

def opV (o : Opr) (v : Value) : Value := .agg #[.int .i64 o.kind, .int .i64 o.k.1, .int .i64 o.k.2, v, .bool o.raw, .bool o.dirty]
def PlayPost (cb m : Nat) (s : Int) (F : Nat → Prop) (L : List Bf) (o : Opr) (w : World) (e : Ending) (w' : World) : Prop :=
  ∃ er bv res, e = .returned (.tuple #[.int .i64 er, bv, .bool res.isSome]) ∧ After cb m s F L o w w' er res ∧ ResAt w' w.heap.size bv res
theorem own_less {w : World} {B B' n : Nat} {v : Value} {xs : List Value} {e : TypeId} (h : w.ownsRow B e 1 v n xs) (hb : B' ≤ B) : w.ownsRow B' e 1 v n xs := by
  refine ⟨h.1, ?_⟩
  rcases h.2 with hn | ⟨g, cap, cur, rfl, h0, hg, r⟩
  · exact .inl hn
  · exact .inr ⟨g, cap, cur, rfl, Nat.le_trans hb h0, hg, r⟩
theorem ResAt.less {w : World} {B B' : Nat} {v : Value} {res : Option (List Value)} (h : ResAt w B v res) (hb : B' ≤ B) : ResAt w B' v res := by
  cases res with
  | none => exact h
  | some l => exact ⟨own_less h.1 hb, h.2⟩
def opCells (o : Opr) (v : Value) : Array Value := #[.int .i64 o.kind, .int .i64 o.k.1, .int .i64 o.k.2, v, .bool o.raw, .bool o.dirty]
structure OpBox (w : World) (kb : Nat) (o : Opr) (v : Value) : Prop where
  c0 : w.cell? ⟨kb, 0, none⟩ = some (.int .i64 o.kind)
  c1 : w.cell? ⟨kb, 1, none⟩ = some (.int .i64 o.k.1)
  c2 : w.cell? ⟨kb, 2, none⟩ = some (.int .i64 o.k.2)
  c3 : w.cell? ⟨kb, 3, none⟩ = some v
  c4 : w.cell? ⟨kb, 4, none⟩ = some (.bool o.raw)
  c5 : w.cell? ⟨kb, 5, none⟩ = some (.bool o.dirty)
theorem opBox_new (w : World) (o : Opr) (v : Value) : OpBox (w.alloc (.cells (opCells o v) 45)) w.heap.size o v := by
  have hb : (w.alloc (.cells (opCells o v) 45)).heap[w.heap.size]? = some (.cells (opCells o v) 45 (0, 0)) := blk_new rfl
  exact ⟨cell_blk_some hb rfl, cell_blk_some hb rfl, cell_blk_some hb rfl, cell_blk_some hb rfl, cell_blk_some hb rfl, cell_blk_some hb rfl⟩
theorem OpBox.same {w w' : World} {kb : Nat} {o : Opr} {v : Value} (h : OpBox w kb o v) (hb : w'.heap[kb]? = w.heap[kb]?) : OpBox w' kb o v :=
  ⟨(World.cell?_of_block (w := w) (a := ⟨kb, 0, none⟩) hb).trans h.c0, (World.cell?_of_block (w := w) (a := ⟨kb, 1, none⟩) hb).trans h.c1, (World.cell?_of_block (w := w) (a := ⟨kb, 2, none⟩) hb).trans h.c2,
   (World.cell?_of_block (w := w) (a := ⟨kb, 3, none⟩) hb).trans h.c3, (World.cell?_of_block (w := w) (a := ⟨kb, 4, none⟩) hb).trans h.c4, (World.cell?_of_block (w := w) (a := ⟨kb, 5, none⟩) hb).trans h.c5⟩

section
variable {w : World} {cb m : Nat} {s : Int} {F : Nat → Prop} {L : List Bf} {Q : List Bf} {o : Opr} {v : Value}
set_option maxHeartbeats 2000000 in
set_option maxRecDepth 100000 in
theorem play_get (h : CAt w cb m s Q F) (hL : Lru Q s L) (hs0 : 0 ≤ s) (hs1 : s ≤ 4000000000000000000) (hl : L.length ≤ 10000) (ho : o.kind = 2) :
    Calls Try.prog 18 #[.pointer (some ⟨cb, 0, none⟩), opV o v] w (PlayPost cb m s F L o w) := by
  have hf : Fr (fun _ => False) w (w.alloc (.cells (opCells o v) 45)) := (Fr.refl _ w).alloc _
  have hw := getA (h.frame hf fun _ _ hx => hx) hL hs0 hs1 hl ho
  have hsz : w.heap.size ≤ (w.alloc (.cells (opCells o v) 45)).heap.size := hf.size
  unfold opV
  unfold opCells at *
  have HW := Lib.hid hw; have HF := Lib.hid hf; have HS := Lib.hid hsz
  rw [ho] at HW HF HS ⊢
  clear hw hf h hL hsz
  go_enter Try.func18, Try.ntmps18
  go_wp2_with fail
  refine HW.out.mono ?_
  rintro e w2 ⟨bv, res, rfl, ha, hr⟩
  have HA := Lib.hid (ha.ahead HF.out); have HR := Lib.hid (hr.less HS.out)
  clear ha hr HW HF HS
  go_wp2_with fail
  go_ret3
  exact ⟨0, bv, res, rfl, HA.out, HR.out⟩
set_option maxHeartbeats 2000000 in
set_option maxRecDepth 100000 in
theorem play_clean (h : CAt w cb m s Q F) (hL : Lru Q s L) (ho : o.kind = 3) :
    Calls Try.prog 18 #[.pointer (some ⟨cb, 0, none⟩), opV o v] w (PlayPost cb m s F L o w) := by
  have hf : Fr (fun _ => False) w (w.alloc (.cells (opCells o v) 45)) := (Fr.refl _ w).alloc _
  have hw := cleanA (h.frame hf fun _ _ hx => hx) hL ho
  have hsz : w.heap.size ≤ (w.alloc (.cells (opCells o v) 45)).heap.size := hf.size
  unfold opV
  unfold opCells at *
  have HW := Lib.hid hw; have HF := Lib.hid hf; have HS := Lib.hid hsz
  rw [ho] at HW HF HS ⊢
  clear hw hf h hL hsz
  go_enter Try.func18, Try.ntmps18
  go_wp2_with fail
  refine HW.out.mono ?_
  rintro e w2 ⟨er, rfl, ha⟩
  have HA := Lib.hid (ha.ahead HF.out)
  clear ha HW HF HS
  go_wp2_with fail
  go_ret3
  exact ⟨er, _, none, rfl, HA.out, rfl⟩
set_option maxHeartbeats 2000000 in
set_option maxRecDepth 100000 in
theorem play_pin (h : CAt w cb m s Q F) (hL : Lru Q s L) (hp : ∀ b ∈ L, 0 ≤ b.pins ∧ b.pins ≤ 1000000) (ho : o.kind = 4) :
    Calls Try.prog 18 #[.pointer (some ⟨cb, 0, none⟩), opV o v] w (PlayPost cb m s F L o w) := by
  have hf : Fr (fun _ => False) w (w.alloc (.cells (opCells o v) 45)) := (Fr.refl _ w).alloc _
  have hw := pinA (h.frame hf fun _ _ hx => hx) hL hp ho
  have hsz : w.heap.size ≤ (w.alloc (.cells (opCells o v) 45)).heap.size := hf.size
  unfold opV
  unfold opCells at *
  have HW := Lib.hid hw; have HF := Lib.hid hf; have HS := Lib.hid hsz
  rw [ho] at HW HF HS ⊢
  clear hw hf h hL hsz
  go_enter Try.func18, Try.ntmps18
  go_wp2_with fail
  refine HW.out.mono ?_
  rintro e w2 ⟨er, rfl, ha⟩
  have HA := Lib.hid (ha.ahead HF.out)
  clear ha HW HF HS
  go_wp2_with fail
  go_ret3
  exact ⟨er, _, none, rfl, HA.out, rfl⟩
set_option maxHeartbeats 2000000 in
set_option maxRecDepth 100000 in
theorem play_unpin (h : CAt w cb m s Q F) (hL : Lru Q s L) (hp : ∀ b ∈ L, 0 ≤ b.pins ∧ b.pins ≤ 1000000) (ho : o.kind = 5) :
    Calls Try.prog 18 #[.pointer (some ⟨cb, 0, none⟩), opV o v] w (PlayPost cb m s F L o w) := by
  have hf : Fr (fun _ => False) w (w.alloc (.cells (opCells o v) 45)) := (Fr.refl _ w).alloc _
  have hw := unpinA (h.frame hf fun _ _ hx => hx) hL hp ho
  have hsz : w.heap.size ≤ (w.alloc (.cells (opCells o v) 45)).heap.size := hf.size
  unfold opV
  unfold opCells at *
  have HW := Lib.hid hw; have HF := Lib.hid hf; have HS := Lib.hid hsz
  rw [ho] at HW HF HS ⊢
  clear hw hf h hL hsz
  go_enter Try.func18, Try.ntmps18
  go_wp2_with fail
  refine HW.out.mono ?_
  rintro e w2 ⟨er, rfl, ha⟩
  have HA := Lib.hid (ha.ahead HF.out)
  clear ha HW HF HS
  go_wp2_with fail
  go_ret3
  exact ⟨er, _, none, rfl, HA.out, rfl⟩
set_option maxHeartbeats 2000000 in
set_option maxRecDepth 100000 in
theorem play_drop (h : CAt w cb m s Q F) (hL : Lru Q s L) (hp : ∀ b ∈ L, 0 ≤ b.pins ∧ b.pins ≤ 1000000) (hl : L.length ≤ 10000) (ho : o.kind = 6) :
    Calls Try.prog 18 #[.pointer (some ⟨cb, 0, none⟩), opV o v] w (PlayPost cb m s F L o w) := by
  have hf : Fr (fun _ => False) w (w.alloc (.cells (opCells o v) 45)) := (Fr.refl _ w).alloc _
  have hw := dropA (h.frame hf fun _ _ hx => hx) hL hp hl ho
  have hsz : w.heap.size ≤ (w.alloc (.cells (opCells o v) 45)).heap.size := hf.size
  unfold opV
  unfold opCells at *
  have HW := Lib.hid hw; have HF := Lib.hid hf; have HS := Lib.hid hsz
  rw [ho] at HW HF HS ⊢
  clear hw hf h hL hsz
  go_enter Try.func18, Try.ntmps18
  go_wp2_with fail
  refine HW.out.mono ?_
  rintro e w2 ⟨er, rfl, ha⟩
  have HA := Lib.hid (ha.ahead HF.out)
  clear ha HW HF HS
  go_wp2_with fail
  go_ret3
  exact ⟨er, _, none, rfl, HA.out, rfl⟩
set_option maxHeartbeats 2000000 in
set_option maxRecDepth 100000 in
theorem play_other (h : CAt w cb m s Q F) (hL : Lru Q s L) (h1 : o.kind ≠ 1) (h2 : o.kind ≠ 2) (h3 : o.kind ≠ 3) (h4 : o.kind ≠ 4) (h5 : o.kind ≠ 5) (h6 : o.kind ≠ 6) :
    Calls Try.prog 18 #[.pointer (some ⟨cb, 0, none⟩), opV o v] w (PlayPost cb m s F L o w) := by
  have hf : Fr (fun _ => False) w (w.alloc (.cells (opCells o v) 45)) := (Fr.refl _ w).alloc _
  have ha : After cb m s F L o w (w.alloc (.cells (opCells o v) 45)) 0 none :=
    ⟨Q, s, F, L, h.frame hf fun _ _ hx => hx, hL, by omega, by omega, hf.mono fun _ _ hx => hx.elim, fun _ hx => .inl hx, Step.other h1 h2 h3 h4 h5 h6⟩
  unfold opV
  unfold opCells at *
  have HA := Lib.hid ha
  have q1 : (o.kind == 1) = false := beq_eq_false_iff_ne.2 h1
  have q2 : (o.kind == 2) = false := beq_eq_false_iff_ne.2 h2
  have q3 : (o.kind == 3) = false := beq_eq_false_iff_ne.2 h3
  have q4 : (o.kind == 4) = false := beq_eq_false_iff_ne.2 h4
  have q5 : (o.kind == 5) = false := beq_eq_false_iff_ne.2 h5
  have q6 : (o.kind == 6) = false := beq_eq_false_iff_ne.2 h6
  clear hf h hL ha h1 h2 h3 h4 h5 h6
  go_enter Try.func18, Try.ntmps18
  go_wp2_with fail
  go_ret3
  exact ⟨0, _, none, rfl, HA.out, rfl⟩
end
end Go.Proofs.Ytjldocpjoiibjaa
