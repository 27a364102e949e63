/- What an argument of the type []marllaw16.Op is. -/
import Derived.Test.YtklamgijikcnaaaDoorArgsI
import Derived.Deep.Slices
namespace Go.Proofs.YtklamgijikcnaaaDoor
open Go.RowKit Go.ChangeShapes Go.WideShapes Go.ChangeAt Go.Deep

structure Op4 where
  kind : Int
  n : Int
  addr : Int
  k : Int
/-- A script's call in memory: four cells. -/
structure OpAt (w : World) (g o : Nat) (x : Op4) : Prop where
  c0 : w.cell? ⟨g, o, none⟩ = some (.int .i64 x.kind)
  c1 : w.cell? ⟨g, o + 1, none⟩ = some (.int .i64 x.n)
  c2 : w.cell? ⟨g, o + 2, none⟩ = some (.int .i64 x.addr)
  c3 : w.cell? ⟨g, o + 3, none⟩ = some (.int .i64 x.k)
def OpsAt (B : Nat) (w : World) (v : Value) (ops : List Op4) : Prop :=
  ∃ a c, v = .slice a ops.length c ∧ (0 < ops.length → ∃ g o, a = some ⟨g, o, none⟩ ∧ g < B ∧ ∀ i x, ops[i]? = some x → OpAt w g (o + i * 4) x)
theorem OpAt.below {w w' : World} {B g o : Nat} {x : Op4} (h : OpAt w g o x) (hg : g < B) (hb : Below B w w') : OpAt w' g o x :=
  have e := hb.block g hg
  ⟨(World.cell?_of_block (w := w) (a := ⟨g, o, none⟩) e).trans h.c0, (World.cell?_of_block (w := w) (a := ⟨g, o + 1, none⟩) e).trans h.c1, (World.cell?_of_block (w := w) (a := ⟨g, o + 2, none⟩) e).trans h.c2,
   (World.cell?_of_block (w := w) (a := ⟨g, o + 3, none⟩) e).trans h.c3⟩
section
variable {H : Type} {enc : TypeId × Value → H} {W : World}
set_option maxRecDepth 100000 in
theorem op_trod {n : Nat} {cs : List Value} {y : DataW H × List MemPlace} (h : DataW.trod enc Tryd.prog W 0 (fun _ => true) true n 42 cs = some y) :
    ∃ x : Op4, cs = [.int .i64 x.kind, .int .i64 x.n, .int .i64 x.addr, .int .i64 x.k] := by
  obtain ⟨xs, k, _, _, hlen, hxl, hf⟩ := DataW.trod_struct Tryd.underlying42 h
  rw [show Program.cellsOf Tryd.prog 42 = 4 by kernel_rfl] at hlen
  match cs, hlen with
  | [v0, v1, v2, v3], _ =>
    have hgo : ∀ i, i < 4 → ∃ y, xs[i]? = some y := fun i hi => ⟨_, List.getElem?_eq_getElem (by rw [hxl]; exact hi)⟩
    obtain ⟨y0, e0⟩ := hgo 0 (by omega)
    obtain ⟨y1, e1⟩ := hgo 1 (by omega)
    obtain ⟨y2, e2⟩ := hgo 2 (by omega)
    obtain ⟨y3, e3⟩ := hgo 3 (by omega)
    have g0 : DataW.trod enc Tryd.prog W 0 (fun _ => true) true k 3 (List.take (Program.cellsOf Tryd.prog 3) (List.drop 0 [v0, v1, v2, v3])) = some y0 := (hf 0 _ rfl).trans e0
    have g1 : DataW.trod enc Tryd.prog W 0 (fun _ => true) true k 3 (List.take (Program.cellsOf Tryd.prog 3) (List.drop 1 [v0, v1, v2, v3])) = some y1 := (hf 1 _ rfl).trans e1
    have g2 : DataW.trod enc Tryd.prog W 0 (fun _ => true) true k 3 (List.take (Program.cellsOf Tryd.prog 3) (List.drop 2 [v0, v1, v2, v3])) = some y2 := (hf 2 _ rfl).trans e2
    have g3 : DataW.trod enc Tryd.prog W 0 (fun _ => true) true k 3 (List.take (Program.cellsOf Tryd.prog 3) (List.drop 3 [v0, v1, v2, v3])) = some y3 := (hf 3 _ rfl).trans e3
    have ci : Program.cellsOf Tryd.prog 3 = 1 := by kernel_rfl
    rw [ci] at g0 g1 g2 g3
    obtain ⟨z0, h0, _⟩ := DataW.trod_int Tryd.underlying3 g0
    obtain ⟨z1, h1, _⟩ := DataW.trod_int Tryd.underlying3 g1
    obtain ⟨z2, h2, _⟩ := DataW.trod_int Tryd.underlying3 g2
    obtain ⟨z3, h3, _⟩ := DataW.trod_int Tryd.underlying3 g3
    have r0 : v0 = .int .i64 z0 := (List.cons.inj h0).1
    have r1 : v1 = .int .i64 z1 := (List.cons.inj h1).1
    have r2 : v2 = .int .i64 z2 := (List.cons.inj h2).1
    have r3 : v3 = .int .i64 z3 := (List.cons.inj h3).1
    subst r0 r1 r2 r3
    exact ⟨⟨z0, z1, z2, z3⟩, rfl⟩
set_option maxRecDepth 100000 in
theorem arg_ops {base : Nat} {v : Value} {d : DataW H} {p : List MemPlace} (hval : Value.okWide Tryd.prog W .any base 40 v)
    (h : DataW.Trod enc Tryd.prog W 0 (fun _ => true) true 40 v d p) : ∃ ops, OpsAt W.heap.size W v ops := by
  obtain ⟨a1, len, cap, rfl⟩ := okWide_slice Tryd.underlying40 hval
  obtain ⟨fuel, hf⟩ := h
  rcases open_slice Tryd.underlying40 hf with ⟨hcs, _⟩ | ⟨a, len', cap', mm, n, D, Pl, hcs, _, hl, _, hmm, _, hx⟩
  · simp [Value.cells] at hcs
    obtain ⟨rfl, rfl, rfl⟩ := hcs
    exact ⟨[], none, 0, rfl, fun h => by simp at h⟩
  · simp [Value.cells] at hcs
    obtain ⟨rfl, rfl, rfl⟩ := hcs
    simp only [if_true] at hmm
    rw [show Program.cellsOf Tryd.prog 42 = 4 by kernel_rfl] at hx
    have each : ∀ i, i < len → ∃ x : Op4, ∀ j, j < 4 → W.cell? (a.add (i * 4 + j)) = ([.int .i64 x.kind, .int .i64 x.n, .int .i64 x.addr, .int .i64 x.k] : List Value)[j]? := fun i hi => by
      obtain ⟨cs, h1, h2⟩ := hx i (by omega)
      obtain ⟨x, rfl⟩ := op_trod h2
      obtain ⟨_, _, hc⟩ := World.cells?_some h1
      refine ⟨x, fun j hj => ?_⟩
      have := hc j hj
      rwa [add_add] at this
    by_cases h0 : len = 0
    · subst h0
      exact ⟨[], some a, cap, rfl, fun h => by simp at h⟩
    · obtain ⟨x0, hx0⟩ := each 0 (by omega)
      have hc0 := hx0 0 (by omega)
      obtain ⟨g, o, rfl, hg⟩ := addr_of_cell hc0
      have hadd : ∀ j, (⟨g, o, none⟩ : Addr).add j = ⟨g, o + j, none⟩ := fun j => by unfold Addr.add; split <;> simp_all
      have hall : ∃ ops : List Op4, ops.length = len ∧ ∀ i x, ops[i]? = some x → OpAt W g (o + i * 4) x := by
        clear hx0 hc0 h0 hx hf hval
        have hn : ∀ n, n ≤ len → ∃ ops : List Op4, ops.length = n ∧ ∀ i x, ops[i]? = some x → OpAt W g (o + i * 4) x := by
          intro n
          induction n with
          | zero => exact fun _ => ⟨[], rfl, fun i x hx => by simp at hx⟩
          | succ n ih =>
            intro hn
            obtain ⟨ops, h1, h2⟩ := ih (by omega)
            obtain ⟨x, hx⟩ := each n (by omega)
            refine ⟨ops ++ [x], by simp [h1], fun i y hy => ?_⟩
            by_cases hi : i < n
            · rw [List.getElem?_append_left (by omega)] at hy
              exact h2 i y hy
            · have hil := (List.getElem?_eq_some_iff.1 hy).1
              rw [List.length_append, List.length_singleton] at hil
              obtain rfl : i = n := by omega
              rw [List.getElem?_append_right (by omega), h1, Nat.sub_self] at hy
              obtain rfl : x = y := by simpa using hy
              have hh : ∀ j, j < 4 → W.cell? ⟨g, o + (i * 4 + j), none⟩ = ([.int .i64 x.kind, .int .i64 x.n, .int .i64 x.addr, .int .i64 x.k] : List Value)[j]? := fun j hj => by rw [← hadd]; exact hx j hj
              refine ⟨?_, ?_, ?_, ?_⟩
              · exact hh 0 (by omega)
              · rw [Nat.add_assoc]; exact hh 1 (by omega)
              · rw [Nat.add_assoc]; exact hh 2 (by omega)
              · rw [Nat.add_assoc]; exact hh 3 (by omega)
        exact hn len (Nat.le_refl _)
      obtain ⟨ops, h1, h2⟩ := hall
      exact ⟨ops, _, cap, by rw [h1], fun _ => ⟨g, o, rfl, hg, h2⟩⟩
end
end Go.Proofs.YtklamgijikcnaaaDoor
