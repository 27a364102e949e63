/- What an argument of the type []Op is. -/
import Derived.Test.YtjldocpjoiibjaaC37
import Derived.Test.YtjldocpjoiibjaaCArgs
import Derived.Deep.Slices
namespace Go.Proofs.Ytjldocpjoiibjaa
open Go.RowKit Go.ChangeShapes Go.WideShapes Go.ChangeAt Go.Deep

/-- A script's call in memory: six cells; its data lie below B. -/
structure OpAt (B : Nat) (w : World) (g o : Nat) (x : Opr × Value) : Prop where
  c0 : w.cell? ⟨g, o, none⟩ = some (.int .i64 x.1.kind)
  c1 : w.cell? ⟨g, o + 1, none⟩ = some (.int .i64 x.1.k.1)
  c2 : w.cell? ⟨g, o + 2, none⟩ = some (.int .i64 x.1.k.2)
  c3 : w.cell? ⟨g, o + 3, none⟩ = some x.2
  c4 : w.cell? ⟨g, o + 4, none⟩ = some (.bool x.1.raw)
  c5 : w.cell? ⟨g, o + 5, none⟩ = some (.bool x.1.dirty)
  dat : BysAt B w x.2 x.1.data
def OpsAt (B : Nat) (w : World) (v : Value) (ops : List (Opr × Value)) : Prop :=
  ∃ a c, v = .slice a ops.length c ∧ (0 < ops.length → ∃ g o, a = some ⟨g, o, none⟩ ∧ g < B ∧ ∀ i x, ops[i]? = some x → OpAt B w g (o + i * 6) x)
theorem OpAt.below {w w' : World} {g o : Nat} {x : Opr × Value} (h : OpAt w.heap.size w g o x) (hg : g < w.heap.size) (hb : Below w.heap.size w w') : OpAt w.heap.size w' g o x :=
  have e := hb.block g hg
  ⟨(World.cell?_of_block (w := w) (a := ⟨g, o, none⟩) e).trans h.c0, (World.cell?_of_block (w := w) (a := ⟨g, o + 1, none⟩) e).trans h.c1, (World.cell?_of_block (w := w) (a := ⟨g, o + 2, none⟩) e).trans h.c2,
   (World.cell?_of_block (w := w) (a := ⟨g, o + 3, none⟩) e).trans h.c3, (World.cell?_of_block (w := w) (a := ⟨g, o + 4, none⟩) e).trans h.c4, (World.cell?_of_block (w := w) (a := ⟨g, o + 5, none⟩) e).trans h.c5,
   h.dat.fr (S := fun _ => False) (Fr.below hb) (fun _ h => h.elim) (Nat.le_refl _)⟩

section
variable {H : Type} {enc : TypeId × Value → H} {W : World}
theorem bys_trod {n : Nat} {v : Value} {y : DataW H × List MemPlace} (h : DataW.trod enc Try.prog W 0 (fun _ => true) true n 31 [v] = some y) : ∃ ys, BysAt W.heap.size W v ys := by
  rcases open_ints Try.underlying31 Try.underlying5 (by kernel_rfl) h with ⟨hcs, _⟩ | ⟨a, len, cap, zs, hcs, _, hl, _, hz, _, hcell, _⟩
  · obtain ⟨rfl, _⟩ := List.cons.inj hcs
    exact ⟨[], .inl ⟨rfl, _, _, rfl⟩⟩
  · obtain ⟨rfl, _⟩ := List.cons.inj hcs
    simp only [if_true] at hz
    refine ⟨zs.take len, ?_⟩
    have hlen : (zs.take len).length = len := by rw [List.length_take]; omega
    by_cases h0 : len = 0
    · subst h0
      exact .inl ⟨by simp, _, _, rfl⟩
    · obtain ⟨g, o, rfl, hg⟩ := addr_of_cell (hcell 0 (by omega))
      refine .inr ⟨g, o, cap, by rw [hlen], by omega, hg, fun j x hx => ?_⟩
      rw [List.getElem?_take] at hx
      split at hx
      · have hj : j < zs.length := (List.getElem?_eq_some_iff.1 hx).1
        have hadd : (⟨g, o, none⟩ : Addr).add j = ⟨g, o + j, none⟩ := by unfold Addr.add; split <;> simp_all
        have := hcell j hj
        rw [hadd] at this
        rw [this, List.getD_eq_getElem?_getD, hx]; rfl
      · cases hx
set_option maxRecDepth 100000 in
theorem op_trod {n : Nat} {cs : List Value} {y : DataW H × List MemPlace} (h : DataW.trod enc Try.prog W 0 (fun _ => true) true n 45 cs = some y) :
    ∃ x : Opr × Value, cs = [.int .i64 x.1.kind, .int .i64 x.1.k.1, .int .i64 x.1.k.2, x.2, .bool x.1.raw, .bool x.1.dirty] ∧ BysAt W.heap.size W x.2 x.1.data := by
  obtain ⟨xs, k, _, _, hlen, hxl, hf⟩ := DataW.trod_struct Try.underlying45 h
  rw [show Program.cellsOf Try.prog 45 = 6 by kernel_rfl] at hlen
  match cs, hlen with
  | [v0, v1, v2, v3, v4, v5], _ =>
    have hgo : ∀ i, i < 5 → ∃ y, xs[i]? = some y := fun i hi => ⟨_, List.getElem?_eq_getElem (by rw [hxl]; exact hi)⟩
    obtain ⟨y0, e0⟩ := hgo 0 (by omega)
    obtain ⟨y1, e1⟩ := hgo 1 (by omega)
    obtain ⟨y2, e2⟩ := hgo 2 (by omega)
    obtain ⟨y3, e3⟩ := hgo 3 (by omega)
    obtain ⟨y4, e4⟩ := hgo 4 (by omega)
    have g0 : DataW.trod enc Try.prog W 0 (fun _ => true) true k 3 (List.take (Program.cellsOf Try.prog 3) (List.drop 0 [v0, v1, v2, v3, v4, v5])) = some y0 := (hf 0 _ rfl).trans e0
    have g1 : DataW.trod enc Try.prog W 0 (fun _ => true) true k 29 (List.take (Program.cellsOf Try.prog 29) (List.drop 1 [v0, v1, v2, v3, v4, v5])) = some y1 := (hf 1 _ rfl).trans e1
    have g2 : DataW.trod enc Try.prog W 0 (fun _ => true) true k 31 (List.take (Program.cellsOf Try.prog 31) (List.drop 3 [v0, v1, v2, v3, v4, v5])) = some y2 := (hf 2 _ rfl).trans e2
    have g3 : DataW.trod enc Try.prog W 0 (fun _ => true) true k 4 (List.take (Program.cellsOf Try.prog 4) (List.drop 4 [v0, v1, v2, v3, v4, v5])) = some y3 := (hf 3 _ rfl).trans e3
    have g4 : DataW.trod enc Try.prog W 0 (fun _ => true) true k 4 (List.take (Program.cellsOf Try.prog 4) (List.drop 5 [v0, v1, v2, v3, v4, v5])) = some y4 := (hf 4 _ rfl).trans e4
    have ci : Program.cellsOf Try.prog 3 = 1 := by kernel_rfl
    have ck : Program.cellsOf Try.prog 29 = 2 := by kernel_rfl
    have cd : Program.cellsOf Try.prog 31 = 1 := by kernel_rfl
    have cb : Program.cellsOf Try.prog 4 = 1 := by kernel_rfl
    rw [ci] at g0
    rw [ck] at g1
    rw [cd] at g2
    rw [cb] at g3 g4
    obtain ⟨z0, h0, _⟩ := DataW.trod_int Try.underlying3 g0
    obtain ⟨b3, h3, _⟩ := DataW.trod_bool Try.underlying4 g3
    obtain ⟨b4, h4, _⟩ := DataW.trod_bool Try.underlying4 g4
    obtain ⟨ys, hys⟩ := bys_trod (v := v3) g2
    obtain ⟨zs, k2, _, _, _, hzl, hz⟩ := DataW.trod_struct Try.underlying29 g1
    have hgz : ∀ i, i < 2 → ∃ y, zs[i]? = some y := fun i hi => ⟨_, List.getElem?_eq_getElem (by rw [hzl]; exact hi)⟩
    obtain ⟨x0, f0⟩ := hgz 0 (by omega)
    obtain ⟨x1, f1⟩ := hgz 1 (by omega)
    have q0 : DataW.trod enc Try.prog W 0 (fun _ => true) true k2 3 (List.take (Program.cellsOf Try.prog 3) (List.drop 0 (List.take 2 (List.drop 1 [v0, v1, v2, v3, v4, v5])))) = some x0 := (hz 0 _ rfl).trans f0
    have q1 : DataW.trod enc Try.prog W 0 (fun _ => true) true k2 3 (List.take (Program.cellsOf Try.prog 3) (List.drop 1 (List.take 2 (List.drop 1 [v0, v1, v2, v3, v4, v5])))) = some x1 := (hz 1 _ rfl).trans f1
    rw [ci] at q0 q1
    obtain ⟨n0, h1, _⟩ := DataW.trod_int Try.underlying3 q0
    obtain ⟨n1, h2, _⟩ := DataW.trod_int Try.underlying3 q1
    have r0 : v0 = .int .i64 z0 := (List.cons.inj h0).1
    have r1 : v1 = .int .i64 n0 := (List.cons.inj h1).1
    have r2 : v2 = .int .i64 n1 := (List.cons.inj h2).1
    have r4 : v4 = .bool b3 := (List.cons.inj h3).1
    have r5 : v5 = .bool b4 := (List.cons.inj h4).1
    subst r0 r1 r2 r4 r5
    exact ⟨(⟨z0, (n0, n1), ys, b3, b4⟩, v3), rfl, hys⟩
set_option maxRecDepth 100000 in
theorem arg_ops {base : Nat} {v : Value} {d : DataW H} {p : List MemPlace} (hval : Value.okWide Try.prog W .any base 42 v)
    (h : DataW.Trod enc Try.prog W 0 (fun _ => true) true 42 v d p) : ∃ ops, OpsAt W.heap.size W v ops := by
  obtain ⟨a1, len, cap, rfl⟩ := okWide_slice Try.underlying42 hval
  obtain ⟨fuel, hf⟩ := h
  rcases open_slice Try.underlying42 hf with ⟨hcs, _⟩ | ⟨a, len', cap', mm, n, D, Pl, hcs, _, hl, _, hmm, _, hx⟩
  · simp [Value.cells] at hcs
    obtain ⟨rfl, rfl, rfl⟩ := hcs
    exact ⟨[], none, 0, rfl, fun h => by simp at h⟩
  · simp [Value.cells] at hcs
    obtain ⟨rfl, rfl, rfl⟩ := hcs
    simp only [if_true] at hmm
    rw [show Program.cellsOf Try.prog 45 = 6 by kernel_rfl] at hx
    have each : ∀ i, i < len → ∃ x : Opr × Value, (∀ j, j < 6 → W.cell? (a.add (i * 6 + j)) = ([.int .i64 x.1.kind, .int .i64 x.1.k.1, .int .i64 x.1.k.2, x.2, .bool x.1.raw, .bool x.1.dirty] : List Value)[j]?) ∧ BysAt W.heap.size W x.2 x.1.data := fun i hi => by
      obtain ⟨cs, h1, h2⟩ := hx i (by omega)
      obtain ⟨x, rfl, hb⟩ := op_trod h2
      obtain ⟨_, _, hc⟩ := World.cells?_some h1
      refine ⟨x, fun j hj => ?_, hb⟩
      have := hc j hj
      rwa [add_add] at this
    by_cases h0 : len = 0
    · subst h0
      exact ⟨[], some a, cap, rfl, fun h => by simp at h⟩
    · obtain ⟨x0, hx0, _⟩ := each 0 (by omega)
      have hc0 := hx0 0 (by omega)
      obtain ⟨g, o, rfl, hg⟩ := addr_of_cell hc0
      have hadd : ∀ j, (⟨g, o, none⟩ : Addr).add j = ⟨g, o + j, none⟩ := fun j => by unfold Addr.add; split <;> simp_all
      have hall : ∃ ops : List (Opr × Value), ops.length = len ∧ ∀ i x, ops[i]? = some x → OpAt W.heap.size W g (o + i * 6) x := by
        clear hx0 hc0 h0 hx hf hval
        have hn : ∀ n, n ≤ len → ∃ ops : List (Opr × Value), ops.length = n ∧ ∀ i x, ops[i]? = some x → OpAt W.heap.size W g (o + i * 6) x := by
          intro n
          induction n with
          | zero => exact fun _ => ⟨[], rfl, fun i x hx => by simp at hx⟩
          | succ n ih =>
            intro hn
            obtain ⟨ops, h1, h2⟩ := ih (by omega)
            obtain ⟨x, hx, hb⟩ := each n (by omega)
            refine ⟨ops ++ [x], by simp [h1], fun i y hy => ?_⟩
            by_cases hi : i < n
            · rw [List.getElem?_append_left (by omega)] at hy
              exact h2 i y hy
            · have hil := (List.getElem?_eq_some_iff.1 hy).1
              rw [List.length_append, List.length_singleton] at hil
              obtain rfl : i = n := by omega
              rw [List.getElem?_append_right (by omega), h1, Nat.sub_self] at hy
              obtain rfl : x = y := by simpa using hy
              have hh : ∀ j, j < 6 → W.cell? ⟨g, o + (i * 6 + j), none⟩ = ([.int .i64 x.1.kind, .int .i64 x.1.k.1, .int .i64 x.1.k.2, x.2, .bool x.1.raw, .bool x.1.dirty] : List Value)[j]? := fun j hj => by rw [← hadd]; exact hx j hj
              refine ⟨?_, ?_, ?_, ?_, ?_, ?_, hb⟩
              · exact hh 0 (by omega)
              · rw [Nat.add_assoc]; exact hh 1 (by omega)
              · rw [Nat.add_assoc]; exact hh 2 (by omega)
              · rw [Nat.add_assoc]; exact hh 3 (by omega)
              · rw [Nat.add_assoc]; exact hh 4 (by omega)
              · rw [Nat.add_assoc]; exact hh 5 (by omega)
        exact hn len (Nat.le_refl _)
      obtain ⟨ops, h1, h2⟩ := hall
      exact ⟨ops, _, cap, by rw [h1], fun _ => ⟨g, o, rfl, hg, h2⟩⟩
end
end Go.Proofs.Ytjldocpjoiibjaa
