/- What an argument of the type []marlref14.Op is. -/
import Derived.Test.YtoofcnehoffllaaGreatArgsI
import Derived.Test.YtoofcnehoffllaaGreatT41
import Derived.Deep.Slices
namespace Go.Proofs.YtoofcnehoffllaaGreat
open Go.RowKit Go.ChangeShapes Go.WideShapes Go.ChangeAt Go.Deep

/-- A script's call. -/
structure TOp where
  kind : Int
  path : ByteArray
  old : ByteArray
  at_ : Int
  data : List Int
/-- A script's call in memory: five cells; its data lie in W. -/
structure TOpAt (W w : World) (g o : Nat) (x : TOp × Value) : Prop where
  c0 : w.cell? ⟨g, o, none⟩ = some (.int .i64 x.1.kind)
  c1 : w.cell? ⟨g, o + 1, none⟩ = some (.string x.1.path)
  c2 : w.cell? ⟨g, o + 2, none⟩ = some (.string x.1.old)
  c3 : w.cell? ⟨g, o + 3, none⟩ = some (.int .i64 x.1.at_)
  c4 : w.cell? ⟨g, o + 4, none⟩ = some x.2
  rng : (-9223372036854775808 ≤ x.1.kind ∧ x.1.kind ≤ 9223372036854775807) ∧ -9223372036854775808 ≤ x.1.at_ ∧ x.1.at_ ≤ 9223372036854775807
  dat : ArgB W x.2 x.1.data
  byt : ∀ y ∈ x.1.data, 0 ≤ y ∧ y < 256
def TOpsAt (W : World) (v : Value) (ops : List (TOp × Value)) : Prop :=
  ∃ a c, v = .slice a ops.length c ∧ (0 < ops.length → ∃ g o, a = some ⟨g, o, none⟩ ∧ g < W.heap.size ∧ ∀ i x, ops[i]? = some x → TOpAt W W g (o + i * 5) x)
theorem TOpAt.below {W w : World} {g o : Nat} {x : TOp × Value} (h : TOpAt W W g o x) (hg : g < W.heap.size) (hb : Below W.heap.size W w) : TOpAt W w g o x :=
  have e := hb.block g hg
  ⟨(World.cell?_of_block (w := W) (a := ⟨g, o, none⟩) e).trans h.c0, (World.cell?_of_block (w := W) (a := ⟨g, o + 1, none⟩) e).trans h.c1, (World.cell?_of_block (w := W) (a := ⟨g, o + 2, none⟩) e).trans h.c2,
   (World.cell?_of_block (w := W) (a := ⟨g, o + 3, none⟩) e).trans h.c3, (World.cell?_of_block (w := W) (a := ⟨g, o + 4, none⟩) e).trans h.c4, h.rng, h.dat, h.byt⟩

section
variable {H : Type} {enc : TypeId × Value → H} {W : World}
theorem byt_trod {n : Nat} {v : Value} {y : DataW H × List MemPlace} (h : DataW.trod enc Tryz.prog W 0 (fun _ => true) true n 34 [v] = some y) : ∃ ys, ArgB W v ys ∧ ∀ y ∈ ys, 0 ≤ y ∧ y < 256 := by
  rcases open_ints Tryz.underlying34 Tryz.underlying5 (by kernel_rfl) h with ⟨hcs, _⟩ | ⟨a, len, cap, zs, hcs, _, hl, _, hz, _, hcell, hwz⟩
  · obtain ⟨rfl, _⟩ := List.cons.inj hcs
    exact ⟨[], ⟨none, 0, rfl, Nat.le_refl _, fun h => by simp at h⟩, fun y hy => by cases hy⟩
  · obtain ⟨rfl, _⟩ := List.cons.inj hcs
    simp only [if_true] at hz
    have hlen : (zs.take len).length = len := by rw [List.length_take]; omega
    refine ⟨zs.take len, ⟨some a, cap, by rw [hlen], by omega, fun h0 => ?_⟩, fun y hy => ?_⟩
    · obtain ⟨g, o, rfl, hg⟩ := addr_of_cell (hcell 0 (by omega))
      refine ⟨g, o, rfl, hg, fun j x hx => ?_⟩
      rw [List.getElem?_take] at hx
      split at hx
      · have hj : j < zs.length := (List.getElem?_eq_some_iff.1 hx).1
        have hadd : (⟨g, o, none⟩ : Addr).add j = ⟨g, o + j, none⟩ := by unfold Addr.add; split <;> simp_all
        have := hcell j hj
        rw [hadd] at this
        rw [this, List.getD_eq_getElem?_getD, hx]; rfl
      · cases hx
    · have := hwz y (List.mem_of_mem_take hy)
      simp [Lit.wf, IntKind.min, IntKind.max, IntKind.signed, IntKind.bits] at this
      omega
theorem i64_wf {z : Int} (h : (Lit.int .i64 z).wf = true) : -9223372036854775808 ≤ z ∧ z ≤ 9223372036854775807 := by
  simp [Lit.wf, IntKind.min, IntKind.max, IntKind.signed, IntKind.bits] at h
  omega
set_option maxRecDepth 100000 in
theorem top_trod {n : Nat} {cs : List Value} {y : DataW H × List MemPlace} (h : DataW.trod enc Tryz.prog W 0 (fun _ => true) true n 36 cs = some y) :
    ∃ x : TOp × Value, cs = [.int .i64 x.1.kind, .string x.1.path, .string x.1.old, .int .i64 x.1.at_, x.2] ∧ ((-9223372036854775808 ≤ x.1.kind ∧ x.1.kind ≤ 9223372036854775807) ∧ -9223372036854775808 ≤ x.1.at_ ∧ x.1.at_ ≤ 9223372036854775807) ∧ ArgB W x.2 x.1.data ∧ ∀ y ∈ x.1.data, 0 ≤ y ∧ y < 256 := by
  obtain ⟨xs, k, _, _, hlen, hxl, hf⟩ := DataW.trod_struct Tryz.underlying36 h
  rw [show Program.cellsOf Tryz.prog 36 = 5 by kernel_rfl] at hlen
  match cs, hlen with
  | [v0, v1, v2, v3, v4], _ =>
    have hgo : ∀ i, i < 5 → ∃ y, xs[i]? = some y := fun i hi => ⟨_, List.getElem?_eq_getElem (by rw [hxl]; exact hi)⟩
    obtain ⟨y0, e0⟩ := hgo 0 (by omega)
    obtain ⟨y1, e1⟩ := hgo 1 (by omega)
    obtain ⟨y2, e2⟩ := hgo 2 (by omega)
    obtain ⟨y3, e3⟩ := hgo 3 (by omega)
    obtain ⟨y4, e4⟩ := hgo 4 (by omega)
    have g0 : DataW.trod enc Tryz.prog W 0 (fun _ => true) true k 3 (List.take (Program.cellsOf Tryz.prog 3) (List.drop 0 [v0, v1, v2, v3, v4])) = some y0 := (hf 0 _ rfl).trans e0
    have g1 : DataW.trod enc Tryz.prog W 0 (fun _ => true) true k 9 (List.take (Program.cellsOf Tryz.prog 9) (List.drop 1 [v0, v1, v2, v3, v4])) = some y1 := (hf 1 _ rfl).trans e1
    have g2 : DataW.trod enc Tryz.prog W 0 (fun _ => true) true k 9 (List.take (Program.cellsOf Tryz.prog 9) (List.drop 2 [v0, v1, v2, v3, v4])) = some y2 := (hf 2 _ rfl).trans e2
    have g3 : DataW.trod enc Tryz.prog W 0 (fun _ => true) true k 3 (List.take (Program.cellsOf Tryz.prog 3) (List.drop 3 [v0, v1, v2, v3, v4])) = some y3 := (hf 3 _ rfl).trans e3
    have g4 : DataW.trod enc Tryz.prog W 0 (fun _ => true) true k 34 (List.take (Program.cellsOf Tryz.prog 34) (List.drop 4 [v0, v1, v2, v3, v4])) = some y4 := (hf 4 _ rfl).trans e4
    have ci : Program.cellsOf Tryz.prog 3 = 1 := by kernel_rfl
    have cq : Program.cellsOf Tryz.prog 9 = 1 := by kernel_rfl
    have cd : Program.cellsOf Tryz.prog 34 = 1 := by kernel_rfl
    rw [ci] at g0 g3
    rw [cq] at g1 g2
    rw [cd] at g4
    obtain ⟨z0, h0, _, w0⟩ := DataW.trod_int Tryz.underlying3 g0
    obtain ⟨s1, h1, _⟩ := DataW.trod_string Tryz.underlying9 g1
    obtain ⟨s2, h2, _⟩ := DataW.trod_string Tryz.underlying9 g2
    obtain ⟨z3, h3, _, w3⟩ := DataW.trod_int Tryz.underlying3 g3
    obtain ⟨ys, hys, hyb⟩ := byt_trod (v := v4) g4
    have r0 : v0 = .int .i64 z0 := (List.cons.inj h0).1
    have r1 : v1 = .string s1 := (List.cons.inj h1).1
    have r2 : v2 = .string s2 := (List.cons.inj h2).1
    have r3 : v3 = .int .i64 z3 := (List.cons.inj h3).1
    subst r0 r1 r2 r3
    exact ⟨(⟨z0, s1, s2, z3, ys⟩, v4), rfl, ⟨i64_wf w0, i64_wf w3⟩, hys, hyb⟩
set_option maxRecDepth 100000 in
theorem arg_tops {base : Nat} {v : Value} {d : DataW H} {p : List MemPlace} (hval : Value.okWide Tryz.prog W .any base 22 v)
    (h : DataW.Trod enc Tryz.prog W 0 (fun _ => true) true 22 v d p) : ∃ ops, TOpsAt W v ops := by
  obtain ⟨a1, len, cap, rfl⟩ := okWide_slice Tryz.underlying22 hval
  obtain ⟨fuel, hf⟩ := h
  rcases open_slice Tryz.underlying22 hf with ⟨hcs, _⟩ | ⟨a, len', cap', mm, n, D, Pl, hcs, _, hl, _, hmm, _, hx⟩
  · simp [Value.cells] at hcs
    obtain ⟨rfl, rfl, rfl⟩ := hcs
    exact ⟨[], none, 0, rfl, fun h => by simp at h⟩
  · simp [Value.cells] at hcs
    obtain ⟨rfl, rfl, rfl⟩ := hcs
    simp only [if_true] at hmm
    rw [show Program.cellsOf Tryz.prog 36 = 5 by kernel_rfl] at hx
    have each : ∀ i, i < len → ∃ x : TOp × Value, (∀ j, j < 5 → W.cell? (a.add (i * 5 + j)) = ([.int .i64 x.1.kind, .string x.1.path, .string x.1.old, .int .i64 x.1.at_, x.2] : List Value)[j]?) ∧ ((-9223372036854775808 ≤ x.1.kind ∧ x.1.kind ≤ 9223372036854775807) ∧ -9223372036854775808 ≤ x.1.at_ ∧ x.1.at_ ≤ 9223372036854775807) ∧ ArgB W x.2 x.1.data ∧ ∀ y ∈ x.1.data, 0 ≤ y ∧ y < 256 := fun i hi => by
      obtain ⟨cs, h1, h2⟩ := hx i (by omega)
      obtain ⟨x, rfl, hr, ha, hb⟩ := top_trod h2
      obtain ⟨_, _, hc⟩ := World.cells?_some h1
      refine ⟨x, fun j hj => ?_, hr, ha, hb⟩
      have := hc j hj
      rwa [add_add] at this
    by_cases h0 : len = 0
    · subst h0
      exact ⟨[], some a, cap, rfl, fun h => by simp at h⟩
    · obtain ⟨x0, hx0, _⟩ := each 0 (by omega)
      have hc0 := hx0 0 (by omega)
      obtain ⟨g, o, rfl, hg⟩ := addr_of_cell hc0
      have hadd : ∀ j, (⟨g, o, none⟩ : Addr).add j = ⟨g, o + j, none⟩ := fun j => by unfold Addr.add; split <;> simp_all
      have hall : ∃ ops : List (TOp × Value), ops.length = len ∧ ∀ i x, ops[i]? = some x → TOpAt W W g (o + i * 5) x := by
        clear hx0 hc0 h0 hx hf hval
        have hn : ∀ n, n ≤ len → ∃ ops : List (TOp × Value), ops.length = n ∧ ∀ i x, ops[i]? = some x → TOpAt W W g (o + i * 5) x := by
          intro n
          induction n with
          | zero => exact fun _ => ⟨[], rfl, fun i x hx => by simp at hx⟩
          | succ n ih =>
            intro hn
            obtain ⟨ops, h1, h2⟩ := ih (by omega)
            obtain ⟨x, hx, hr, ha, hb⟩ := each n (by omega)
            refine ⟨ops ++ [x], by simp [h1], fun i y hy => ?_⟩
            by_cases hi : i < n
            · rw [List.getElem?_append_left (by omega)] at hy
              exact h2 i y hy
            · have hil := (List.getElem?_eq_some_iff.1 hy).1
              rw [List.length_append, List.length_singleton] at hil
              obtain rfl : i = n := by omega
              rw [List.getElem?_append_right (by omega), h1, Nat.sub_self] at hy
              obtain rfl : x = y := by simpa using hy
              have hh : ∀ j, j < 5 → W.cell? ⟨g, o + (i * 5 + j), none⟩ = ([.int .i64 x.1.kind, .string x.1.path, .string x.1.old, .int .i64 x.1.at_, x.2] : List Value)[j]? := fun j hj => by rw [← hadd]; exact hx j hj
              refine ⟨?_, ?_, ?_, ?_, ?_, hr, ha, hb⟩
              · exact hh 0 (by omega)
              · rw [Nat.add_assoc]; exact hh 1 (by omega)
              · rw [Nat.add_assoc]; exact hh 2 (by omega)
              · rw [Nat.add_assoc]; exact hh 3 (by omega)
              · rw [Nat.add_assoc]; exact hh 4 (by omega)
        exact hn len (Nat.le_refl _)
      obtain ⟨ops, h1, h2⟩ := hall
      exact ⟨ops, _, cap, by rw [h1], fun _ => ⟨g, o, rfl, hg, h2⟩⟩
end
end Go.Proofs.YtoofcnehoffllaaGreat
