/- What an argument of the type []marlref14.Op is. -/
/- A call of a script: Fits and Do (printed by tools/gen48.py). -/
/- Where a move leads, plainly. -/
/- Walk of the statement TreeMoves: it returns true. -/
import Derived.Test.YtoofcnehoffllaaArgsI
import Derived.Test.YtoofcnehoffllaaT41
import Derived.Deep.Slices
import Derived.Test.YtoofcnehoffllaaT47
namespace Go.Proofs.Ytoofcnehoffllaa
open Go.RowKit Go.ChangeShapes Go.WideShapes Go.ChangeAt Go.Deep

/-- A script's call. -/
structure TOp where
  kind : Int
  path : ByteArray
  old : ByteArray
  at_ : Int
  data : List Int
/-- A script's call in memory: five cells; its data lie in W. -/
structure TOpAt (W w : World) (g o : Nat) (x : TOp × Value) : Prop where
  c0 : w.cell? ⟨g, o, none⟩ = some (.int .i64 x.1.kind)
  c1 : w.cell? ⟨g, o + 1, none⟩ = some (.string x.1.path)
  c2 : w.cell? ⟨g, o + 2, none⟩ = some (.string x.1.old)
  c3 : w.cell? ⟨g, o + 3, none⟩ = some (.int .i64 x.1.at_)
  c4 : w.cell? ⟨g, o + 4, none⟩ = some x.2
  rng : (-9223372036854775808 ≤ x.1.kind ∧ x.1.kind ≤ 9223372036854775807) ∧ -9223372036854775808 ≤ x.1.at_ ∧ x.1.at_ ≤ 9223372036854775807
  dat : ArgB W x.2 x.1.data
  byt : ∀ y ∈ x.1.data, 0 ≤ y ∧ y < 256
def TOpsAt (W : World) (v : Value) (ops : List (TOp × Value)) : Prop :=
  ∃ a c, v = .slice a ops.length c ∧ (0 < ops.length → ∃ g o, a = some ⟨g, o, none⟩ ∧ g < W.heap.size ∧ ∀ i x, ops[i]? = some x → TOpAt W W g (o + i * 5) x)
theorem TOpAt.below {W w : World} {g o : Nat} {x : TOp × Value} (h : TOpAt W W g o x) (hg : g < W.heap.size) (hb : Below W.heap.size W w) : TOpAt W w g o x :=
  have e := hb.block g hg
  ⟨(World.cell?_of_block (w := W) (a := ⟨g, o, none⟩) e).trans h.c0, (World.cell?_of_block (w := W) (a := ⟨g, o + 1, none⟩) e).trans h.c1, (World.cell?_of_block (w := W) (a := ⟨g, o + 2, none⟩) e).trans h.c2,
   (World.cell?_of_block (w := W) (a := ⟨g, o + 3, none⟩) e).trans h.c3, (World.cell?_of_block (w := W) (a := ⟨g, o + 4, none⟩) e).trans h.c4, h.rng, h.dat, h.byt⟩

section
variable {H : Type} {enc : TypeId × Value → H} {W : World}
theorem byt_trod {n : Nat} {v : Value} {y : DataW H × List MemPlace} (h : DataW.trod enc Try.prog W 0 (fun _ => true) true n 29 [v] = some y) : ∃ ys, ArgB W v ys ∧ ∀ y ∈ ys, 0 ≤ y ∧ y < 256 := by
  rcases open_ints Try.underlying29 Try.underlying5 (by kernel_rfl) h with ⟨hcs, _⟩ | ⟨a, len, cap, zs, hcs, _, hl, _, hz, _, hcell, hwz⟩
  · obtain ⟨rfl, _⟩ := List.cons.inj hcs
    exact ⟨[], ⟨none, 0, rfl, Nat.le_refl _, fun h => by simp at h⟩, fun y hy => by cases hy⟩
  · obtain ⟨rfl, _⟩ := List.cons.inj hcs
    simp only [if_true] at hz
    have hlen : (zs.take len).length = len := by rw [List.length_take]; omega
    refine ⟨zs.take len, ⟨some a, cap, by rw [hlen], by omega, fun h0 => ?_⟩, fun y hy => ?_⟩
    · obtain ⟨g, o, rfl, hg⟩ := addr_of_cell (hcell 0 (by omega))
      refine ⟨g, o, rfl, hg, fun j x hx => ?_⟩
      rw [List.getElem?_take] at hx
      split at hx
      · have hj : j < zs.length := (List.getElem?_eq_some_iff.1 hx).1
        have hadd : (⟨g, o, none⟩ : Addr).add j = ⟨g, o + j, none⟩ := by unfold Addr.add; split <;> simp_all
        have := hcell j hj
        rw [hadd] at this
        rw [this, List.getD_eq_getElem?_getD, hx]; rfl
      · cases hx
    · have := hwz y (List.mem_of_mem_take hy)
      simp [Lit.wf, IntKind.min, IntKind.max, IntKind.signed, IntKind.bits] at this
      omega
theorem i64_wf {z : Int} (h : (Lit.int .i64 z).wf = true) : -9223372036854775808 ≤ z ∧ z ≤ 9223372036854775807 := by
  simp [Lit.wf, IntKind.min, IntKind.max, IntKind.signed, IntKind.bits] at h
  omega
set_option maxRecDepth 100000 in
theorem top_trod {n : Nat} {cs : List Value} {y : DataW H × List MemPlace} (h : DataW.trod enc Try.prog W 0 (fun _ => true) true n 54 cs = some y) :
    ∃ x : TOp × Value, cs = [.int .i64 x.1.kind, .string x.1.path, .string x.1.old, .int .i64 x.1.at_, x.2] ∧ ((-9223372036854775808 ≤ x.1.kind ∧ x.1.kind ≤ 9223372036854775807) ∧ -9223372036854775808 ≤ x.1.at_ ∧ x.1.at_ ≤ 9223372036854775807) ∧ ArgB W x.2 x.1.data ∧ ∀ y ∈ x.1.data, 0 ≤ y ∧ y < 256 := by
  obtain ⟨xs, k, _, _, hlen, hxl, hf⟩ := DataW.trod_struct Try.underlying54 h
  rw [show Program.cellsOf Try.prog 54 = 5 by kernel_rfl] at hlen
  match cs, hlen with
  | [v0, v1, v2, v3, v4], _ =>
    have hgo : ∀ i, i < 5 → ∃ y, xs[i]? = some y := fun i hi => ⟨_, List.getElem?_eq_getElem (by rw [hxl]; exact hi)⟩
    obtain ⟨y0, e0⟩ := hgo 0 (by omega)
    obtain ⟨y1, e1⟩ := hgo 1 (by omega)
    obtain ⟨y2, e2⟩ := hgo 2 (by omega)
    obtain ⟨y3, e3⟩ := hgo 3 (by omega)
    obtain ⟨y4, e4⟩ := hgo 4 (by omega)
    have g0 : DataW.trod enc Try.prog W 0 (fun _ => true) true k 3 (List.take (Program.cellsOf Try.prog 3) (List.drop 0 [v0, v1, v2, v3, v4])) = some y0 := (hf 0 _ rfl).trans e0
    have g1 : DataW.trod enc Try.prog W 0 (fun _ => true) true k 9 (List.take (Program.cellsOf Try.prog 9) (List.drop 1 [v0, v1, v2, v3, v4])) = some y1 := (hf 1 _ rfl).trans e1
    have g2 : DataW.trod enc Try.prog W 0 (fun _ => true) true k 9 (List.take (Program.cellsOf Try.prog 9) (List.drop 2 [v0, v1, v2, v3, v4])) = some y2 := (hf 2 _ rfl).trans e2
    have g3 : DataW.trod enc Try.prog W 0 (fun _ => true) true k 3 (List.take (Program.cellsOf Try.prog 3) (List.drop 3 [v0, v1, v2, v3, v4])) = some y3 := (hf 3 _ rfl).trans e3
    have g4 : DataW.trod enc Try.prog W 0 (fun _ => true) true k 29 (List.take (Program.cellsOf Try.prog 29) (List.drop 4 [v0, v1, v2, v3, v4])) = some y4 := (hf 4 _ rfl).trans e4
    have ci : Program.cellsOf Try.prog 3 = 1 := by kernel_rfl
    have cq : Program.cellsOf Try.prog 9 = 1 := by kernel_rfl
    have cd : Program.cellsOf Try.prog 29 = 1 := by kernel_rfl
    rw [ci] at g0 g3
    rw [cq] at g1 g2
    rw [cd] at g4
    obtain ⟨z0, h0, _, w0⟩ := DataW.trod_int Try.underlying3 g0
    obtain ⟨s1, h1, _⟩ := DataW.trod_string Try.underlying9 g1
    obtain ⟨s2, h2, _⟩ := DataW.trod_string Try.underlying9 g2
    obtain ⟨z3, h3, _, w3⟩ := DataW.trod_int Try.underlying3 g3
    obtain ⟨ys, hys, hyb⟩ := byt_trod (v := v4) g4
    have r0 : v0 = .int .i64 z0 := (List.cons.inj h0).1
    have r1 : v1 = .string s1 := (List.cons.inj h1).1
    have r2 : v2 = .string s2 := (List.cons.inj h2).1
    have r3 : v3 = .int .i64 z3 := (List.cons.inj h3).1
    subst r0 r1 r2 r3
    exact ⟨(⟨z0, s1, s2, z3, ys⟩, v4), rfl, ⟨i64_wf w0, i64_wf w3⟩, hys, hyb⟩
set_option maxRecDepth 100000 in
theorem arg_tops {base : Nat} {v : Value} {d : DataW H} {p : List MemPlace} (hval : Value.okWide Try.prog W .any base 51 v)
    (h : DataW.Trod enc Try.prog W 0 (fun _ => true) true 51 v d p) : ∃ ops, TOpsAt W v ops := by
  obtain ⟨a1, len, cap, rfl⟩ := okWide_slice Try.underlying51 hval
  obtain ⟨fuel, hf⟩ := h
  rcases open_slice Try.underlying51 hf with ⟨hcs, _⟩ | ⟨a, len', cap', mm, n, D, Pl, hcs, _, hl, _, hmm, _, hx⟩
  · simp [Value.cells] at hcs
    obtain ⟨rfl, rfl, rfl⟩ := hcs
    exact ⟨[], none, 0, rfl, fun h => by simp at h⟩
  · simp [Value.cells] at hcs
    obtain ⟨rfl, rfl, rfl⟩ := hcs
    simp only [if_true] at hmm
    rw [show Program.cellsOf Try.prog 54 = 5 by kernel_rfl] at hx
    have each : ∀ i, i < len → ∃ x : TOp × Value, (∀ j, j < 5 → W.cell? (a.add (i * 5 + j)) = ([.int .i64 x.1.kind, .string x.1.path, .string x.1.old, .int .i64 x.1.at_, x.2] : List Value)[j]?) ∧ ((-9223372036854775808 ≤ x.1.kind ∧ x.1.kind ≤ 9223372036854775807) ∧ -9223372036854775808 ≤ x.1.at_ ∧ x.1.at_ ≤ 9223372036854775807) ∧ ArgB W x.2 x.1.data ∧ ∀ y ∈ x.1.data, 0 ≤ y ∧ y < 256 := fun i hi => by
      obtain ⟨cs, h1, h2⟩ := hx i (by omega)
      obtain ⟨x, rfl, hr, ha, hb⟩ := top_trod h2
      obtain ⟨_, _, hc⟩ := World.cells?_some h1
      refine ⟨x, fun j hj => ?_, hr, ha, hb⟩
      have := hc j hj
      rwa [add_add] at this
    by_cases h0 : len = 0
    · subst h0
      exact ⟨[], some a, cap, rfl, fun h => by simp at h⟩
    · obtain ⟨x0, hx0, _⟩ := each 0 (by omega)
      have hc0 := hx0 0 (by omega)
      obtain ⟨g, o, rfl, hg⟩ := addr_of_cell hc0
      have hadd : ∀ j, (⟨g, o, none⟩ : Addr).add j = ⟨g, o + j, none⟩ := fun j => by unfold Addr.add; split <;> simp_all
      have hall : ∃ ops : List (TOp × Value), ops.length = len ∧ ∀ i x, ops[i]? = some x → TOpAt W W g (o + i * 5) x := by
        clear hx0 hc0 h0 hx hf hval
        have hn : ∀ n, n ≤ len → ∃ ops : List (TOp × Value), ops.length = n ∧ ∀ i x, ops[i]? = some x → TOpAt W W g (o + i * 5) x := by
          intro n
          induction n with
          | zero => exact fun _ => ⟨[], rfl, fun i x hx => by simp at hx⟩
          | succ n ih =>
            intro hn
            obtain ⟨ops, h1, h2⟩ := ih (by omega)
            obtain ⟨x, hx, hr, ha, hb⟩ := each n (by omega)
            refine ⟨ops ++ [x], by simp [h1], fun i y hy => ?_⟩
            by_cases hi : i < n
            · rw [List.getElem?_append_left (by omega)] at hy
              exact h2 i y hy
            · have hil := (List.getElem?_eq_some_iff.1 hy).1
              rw [List.length_append, List.length_singleton] at hil
              obtain rfl : i = n := by omega
              rw [List.getElem?_append_right (by omega), h1, Nat.sub_self] at hy
              obtain rfl : x = y := by simpa using hy
              have hh : ∀ j, j < 5 → W.cell? ⟨g, o + (i * 5 + j), none⟩ = ([.int .i64 x.1.kind, .string x.1.path, .string x.1.old, .int .i64 x.1.at_, x.2] : List Value)[j]? := fun j hj => by rw [← hadd]; exact hx j hj
              refine ⟨?_, ?_, ?_, ?_, ?_, hr, ha, hb⟩
              · exact hh 0 (by omega)
              · rw [Nat.add_assoc]; exact hh 1 (by omega)
              · rw [Nat.add_assoc]; exact hh 2 (by omega)
              · rw [Nat.add_assoc]; exact hh 3 (by omega)
              · rw [Nat.add_assoc]; exact hh 4 (by omega)
        exact hn len (Nat.le_refl _)
      obtain ⟨ops, h1, h2⟩ := hall
      exact ⟨ops, _, cap, by rw [h1], fun _ => ⟨g, o, rfl, hg, h2⟩⟩
end
end Go.Proofs.Ytoofcnehoffllaa

namespace Go.Proofs.Ytoofcnehoffllaa
open Go.RowKit

/-- What a script's call answers, and what the tree is then. -/
noncomputable def doN (M : TM) (cap : Nat) (o : TOp) : Int × Int × TM :=
  if o.kind = 1 then makeN M cap o.path false else if o.kind = 2 then makeN M cap o.path true else if o.kind = 3 then (0, linkN M o.old o.path) else if o.kind = 4 then (0, goneN M o.path false) else if o.kind = 5 then (0, goneN M o.path true) else
  if o.kind = 6 then (0, renameN M o.old o.path) else if o.kind = 7 then (0, writeN M o.path o.at_ o.data) else if o.kind = 8 then (0, truncN M o.path o.at_) else (0, 0, M)
def opT (x : TOp × Value) : Value := .agg #[.int .i64 x.1.kind, .string x.1.path, .string x.1.old, .int .i64 x.1.at_, x.2]
def fitsN (o : TOp) : Bool := decide (o.path.size ≤ 300) && decide (o.old.size ≤ 300) && decide (o.data.length ≤ 4200)
/-- The row's block, all of bytes; or the row is empty. -/
def ByteRow (w : World) (g n : Nat) (a : Option Addr) : Prop := n = 0 ∨ (a = some ⟨g, 0, none⟩ ∧ ∃ cur, w.heap[g]? = some (.cells cur 5 (0, 0)) ∧ ∀ j, j < n → ∃ z, cur[j]? = some (.int .u8 z))
theorem byteRow_own {w0 w : World} {B n c : Nat} {a : Option Addr} {l : List Value} (h : w.ownsRow B 5 1 (.slice a n c) n l) (hl : ∀ u ∈ l, ∃ z, u = .int .u8 z) (h0 : w0.heap.size ≤ B) (hlt : w0.heap.size < w.heap.size) :
    ∃ g, w0.heap.size ≤ g ∧ g < w.heap.size ∧ ByteRow w g n a := by
  rcases h.2 with ⟨_, hn⟩ | ⟨g, cap, cur, he, hb, hg, hc, _, hs, ht⟩
  · exact ⟨w0.heap.size, Nat.le_refl _, hlt, .inl hn⟩
  · obtain ⟨h1, -, -⟩ := Value.slice.inj he
    refine ⟨g, by omega, blk_lt hg, .inr ⟨h1, cur, hg, fun j hj => ?_⟩⟩
    have hln := h.1
    obtain ⟨u, hu⟩ : ∃ u, l[j]? = some u := ⟨_, List.getElem?_eq_getElem (by omega)⟩
    obtain ⟨z, rfl⟩ := hl u (List.mem_of_getElem? hu)
    rw [← ht, List.getElem?_take, if_pos (by omega), Array.getElem?_toList] at hu
    exact ⟨z, hu⟩
theorem ArgB.src {W w : World} {v : Value} {ys : List Int} (h : ArgB W v ys) (hb : Below W.heap.size W w) : SrcG 1 w v ys.length (u8s ys) := by
  obtain ⟨a, c, rfl, hc, hh⟩ := h
  refine ⟨a, c, rfl, by rw [u8s_length]; omega, u8s_one ys, fun h0 => ?_⟩
  obtain ⟨g, o, rfl, hg, hcell⟩ := hh h0
  refine ⟨_, rfl, fun j u hu => ?_⟩
  unfold u8s at hu
  rw [List.getElem?_map] at hu
  cases hz : ys[j]? with
  | none => rw [hz] at hu; cases hu
  | some z =>
    rw [hz] at hu
    injection hu with hu
    rw [Addr.add_lit, ← hu]
    exact (cell_below hb hg).trans (hcell j z hz)
section
variable {w0 w w' : World} {tb nb cap : Nat} {P E : Nat → Option Nat} {V : Nat → Value} {M M' : TM} {F : Nat → Prop}
theorem LAt.rename (h : LAt w0 w tb cap M) (old s : ByteArray) (ho : old.size ≤ 1000000) (hs : s.size ≤ 1000000) :
    Calls Try.prog 25 #[.pointer (some ⟨tb, 0, none⟩), .string old, .string s] w fun e w' => e = .returned (.int .i64 (renameN M old s).1) ∧ LAt w0 w' tb cap (renameN M old s).2 :=
  (rename_any h.at_ h.good old s ho hs).mono fun _ _ ⟨a, b⟩ => ⟨a, h.left b (h.good.rename old s)⟩
set_option maxHeartbeats 1000000 in
set_option maxRecDepth 100000 in
theorem fits_any (x : TOp × Value) (hv : ∃ a c, x.2 = .slice a x.1.data.length c) (w : World) :
    Calls Try.prog 23 #[opT x] w fun e w' => e = .returned (.bool (fitsN x.1)) ∧ Below w.heap.size w w' := by
  obtain ⟨⟨kind, path, old, at_, data⟩, v⟩ := x
  obtain ⟨a, c, hv⟩ := hv
  have hv : v = .slice a data.length c := hv
  subst hv
  have HB : Hid (Below w.heap.size w (w.alloc (.cells #[.int .i64 kind, .string path, .string old, .int .i64 at_, .slice a data.length c] 54))) := Lib.hid ((Below.refl _ w).alloc (Nat.le_refl _) _)
  unfold opT fitsN
  by_cases h1 : path.size ≤ 300
  · have q1 : decide ((path.size : Int) ≤ 300) = true := decide_eq_true (by omega)
    by_cases h2 : old.size ≤ 300
    · have q2 : decide ((old.size : Int) ≤ 300) = true := decide_eq_true (by omega)
      by_cases h3 : data.length ≤ 4200
      · have q3 : decide ((data.length : Int) ≤ 4200) = true := decide_eq_true (by omega)
        have HR : Hid ((decide (path.size ≤ 300) && decide (old.size ≤ 300) && decide (data.length ≤ 4200)) = true) := Lib.hid (by rw [decide_eq_true h1, decide_eq_true h2, decide_eq_true h3]; rfl)
        clear h1 h2 h3
        go_enter Try.func23, Try.ntmps23
        go_wp2_with fail
        go_ret
        rw [HR.out]
        exact ⟨rfl, HB.out⟩
      · have q3 : decide ((data.length : Int) ≤ 4200) = false := decide_eq_false (by omega)
        have HR : Hid ((decide (path.size ≤ 300) && decide (old.size ≤ 300) && decide (data.length ≤ 4200)) = false) := Lib.hid (by rw [decide_eq_false h3, Bool.and_false])
        clear h1 h2 h3
        go_enter Try.func23, Try.ntmps23
        go_wp2_with fail
        go_ret
        rw [HR.out]
        exact ⟨rfl, HB.out⟩
    · have q2 : decide ((old.size : Int) ≤ 300) = false := decide_eq_false (by omega)
      have HR : Hid ((decide (path.size ≤ 300) && decide (old.size ≤ 300) && decide (data.length ≤ 4200)) = false) := Lib.hid (by rw [decide_eq_false h2, Bool.and_false, Bool.false_and])
      clear h1 h2
      go_enter Try.func23, Try.ntmps23
      go_wp2_with fail
      go_ret
      rw [HR.out]
      exact ⟨rfl, HB.out⟩
  · have q1 : decide ((path.size : Int) ≤ 300) = false := decide_eq_false (by omega)
    have HR : Hid ((decide (path.size ≤ 300) && decide (old.size ≤ 300) && decide (data.length ≤ 4200)) = false) := Lib.hid (by rw [decide_eq_false h1, Bool.false_and, Bool.false_and])
    clear h1
    go_enter Try.func23, Try.ntmps23
    go_wp2_with fail
    go_ret
    rw [HR.out]
    exact ⟨rfl, HB.out⟩
set_option maxHeartbeats 4000000 in
set_option maxRecDepth 100000 in
theorem do_any (h : LAt w0 w tb cap M) (x : TOp × Value) (hp : x.1.path.size ≤ 1000000) (ho : x.1.old.size ≤ 1000000) (hl : x.1.data.length ≤ 1000000) (hr : -9223372036854775808 ≤ x.1.at_ ∧ x.1.at_ ≤ 9223372036854775807)
    (hsrc : SrcG 1 w x.2 x.1.data.length (u8s x.1.data)) (hb : ∀ y ∈ x.1.data, 0 ≤ y ∧ y < 256) :
    Calls Try.prog 24 #[.iface 25 (.pointer (some ⟨tb, 0, none⟩)), opT x] w fun e w' => e = .returned (.tuple #[.int .i64 (doN M cap x.1).1, .int .i64 (doN M cap x.1).2.1]) ∧ LAt w0 w' tb cap (doN M cap x.1).2.2 := by
  obtain ⟨⟨kind, path, old, at_, data⟩, v⟩ := x
  unfold opT
  dsimp only at hp ho hl hr hsrc hb ⊢
  have hbw : Below w.heap.size w (w.alloc (.cells #[.int .i64 kind, .string path, .string old, .int .i64 at_, v] 54)) := (Below.refl _ w).alloc (Nat.le_refl _) _
  have hB := h.below hbw

  by_cases h1 : kind = 1
  · subst h1
    have HC := Lib.hid (hB.create path hp)
    have HRES : Hid (doN M cap ⟨1, path, old, at_, data⟩ = makeN M cap path false) := Lib.hid (by unfold doN; dsimp only; rw [if_pos rfl])
    generalize makeN M cap path false = r at *
    clear h hp ho hl hsrc hb hr hbw hB
    go_enter Try.func24, Try.ntmps24
    go_wp2_with fail
    refine HC.out.mono ?_
    rintro e w1 ⟨rfl, hl1⟩
    have HL := Lib.hid hl1
    clear hl1 HC
    go_wp2_with fail
    go_ret2
    rw [HRES.out]
    exact ⟨rfl, HL.out⟩
  by_cases h2 : kind = 2
  · subst h2
    have HC := Lib.hid (hB.mkdir path hp)
    have HRES : Hid (doN M cap ⟨2, path, old, at_, data⟩ = makeN M cap path true) := Lib.hid (by unfold doN; dsimp only; rw [if_neg (by decide)]; rw [if_pos rfl])
    generalize makeN M cap path true = r at *
    clear h hp ho hl hsrc hb hr hbw hB
    go_enter Try.func24, Try.ntmps24
    go_wp2_with fail
    refine HC.out.mono ?_
    rintro e w1 ⟨rfl, hl1⟩
    have HL := Lib.hid hl1
    clear hl1 HC
    go_wp2_with fail
    go_ret2
    rw [HRES.out]
    exact ⟨rfl, HL.out⟩
  by_cases h3 : kind = 3
  · subst h3
    have HC := Lib.hid (hB.link old path ho hp)
    have HRES : Hid (doN M cap ⟨3, path, old, at_, data⟩ = (0, linkN M old path)) := Lib.hid (by unfold doN; dsimp only; rw [if_neg (by decide)]; rw [if_neg (by decide)]; rw [if_pos rfl])
    generalize linkN M old path = r at *
    clear h hp ho hl hsrc hb hr hbw hB
    go_enter Try.func24, Try.ntmps24
    go_wp2_with fail
    refine HC.out.mono ?_
    rintro e w1 ⟨rfl, hl1⟩
    have HL := Lib.hid hl1
    clear hl1 HC
    go_wp2_with fail
    go_ret2
    rw [HRES.out]
    exact ⟨rfl, HL.out⟩
  by_cases h4 : kind = 4
  · subst h4
    have HC := Lib.hid (hB.unlink path hp)
    have HRES : Hid (doN M cap ⟨4, path, old, at_, data⟩ = (0, goneN M path false)) := Lib.hid (by unfold doN; dsimp only; rw [if_neg (by decide)]; rw [if_neg (by decide)]; rw [if_neg (by decide)]; rw [if_pos rfl])
    generalize goneN M path false = r at *
    clear h hp ho hl hsrc hb hr hbw hB
    go_enter Try.func24, Try.ntmps24
    go_wp2_with fail
    refine HC.out.mono ?_
    rintro e w1 ⟨rfl, hl1⟩
    have HL := Lib.hid hl1
    clear hl1 HC
    go_wp2_with fail
    go_ret2
    rw [HRES.out]
    exact ⟨rfl, HL.out⟩
  by_cases h5 : kind = 5
  · subst h5
    have HC := Lib.hid (hB.rmdir path hp)
    have HRES : Hid (doN M cap ⟨5, path, old, at_, data⟩ = (0, goneN M path true)) := Lib.hid (by unfold doN; dsimp only; rw [if_neg (by decide)]; rw [if_neg (by decide)]; rw [if_neg (by decide)]; rw [if_neg (by decide)]; rw [if_pos rfl])
    generalize goneN M path true = r at *
    clear h hp ho hl hsrc hb hr hbw hB
    go_enter Try.func24, Try.ntmps24
    go_wp2_with fail
    refine HC.out.mono ?_
    rintro e w1 ⟨rfl, hl1⟩
    have HL := Lib.hid hl1
    clear hl1 HC
    go_wp2_with fail
    go_ret2
    rw [HRES.out]
    exact ⟨rfl, HL.out⟩
  by_cases h6 : kind = 6
  · subst h6
    have HC := Lib.hid (hB.rename old path ho hp)
    have HRES : Hid (doN M cap ⟨6, path, old, at_, data⟩ = (0, renameN M old path)) := Lib.hid (by unfold doN; dsimp only; rw [if_neg (by decide)]; rw [if_neg (by decide)]; rw [if_neg (by decide)]; rw [if_neg (by decide)]; rw [if_neg (by decide)]; rw [if_pos rfl])
    generalize renameN M old path = r at *
    clear h hp ho hl hsrc hb hr hbw hB
    go_enter Try.func24, Try.ntmps24
    go_wp2_with fail
    refine HC.out.mono ?_
    rintro e w1 ⟨rfl, hl1⟩
    have HL := Lib.hid hl1
    clear hl1 HC
    go_wp2_with fail
    go_ret2
    rw [HRES.out]
    exact ⟨rfl, HL.out⟩
  by_cases h7 : kind = 7
  · subst h7
    have HRES : Hid (doN M cap ⟨7, path, old, at_, data⟩ = (0, writeN M path at_ data)) := Lib.hid (by unfold doN; dsimp only; rw [if_neg (by decide)]; rw [if_neg (by decide)]; rw [if_neg (by decide)]; rw [if_neg (by decide)]; rw [if_neg (by decide)]; rw [if_neg (by decide)]; rw [if_pos rfl])
    obtain ⟨va0, vc0, hv0, -⟩ := id hsrc
    subst hv0
    obtain ⟨F0, hF0⟩ := hB.ft
    have hbx : (w.alloc (.cells #[.int .i64 7, .string path, .string old, .int .i64 at_, .slice va0 data.length vc0] 54)).heap[w.heap.size]? = some (.cells #[.int .i64 7, .string path, .string old, .int .i64 at_, .slice va0 data.length vc0] 54 (0, 0)) := blk_new rfl
    have HF0 := Lib.hid hF0; have HBX := Lib.hid hbx; have HP := Lib.hid hp; have HLEN := Lib.hid hl; have HR := Lib.hid hr; have HBY := Lib.hid hb
    have HSRC := Lib.hid ((hsrc.below hbw).below ((Below.refl (w.alloc (.cells #[.int .i64 7, .string path, .string old, .int .i64 at_, .slice va0 data.length vc0] 54)).heap.size (w.alloc (.cells #[.int .i64 7, .string path, .string old, .int .i64 at_, .slice va0 data.length vc0] 54))).alloc (Nat.le_refl _) (.cells #[] 5)))
    have OW : Hid (((w.alloc (.cells #[.int .i64 7, .string path, .string old, .int .i64 at_, .slice va0 data.length vc0] 54)).alloc (.cells #[] 5)).ownsRow (w.alloc (.cells #[.int .i64 7, .string path, .string old, .int .i64 at_, .slice va0 data.length vc0] 54)).heap.size 5 1 (.slice (some ⟨(w.alloc (.cells #[.int .i64 7, .string path, .string old, .int .i64 at_, .slice va0 data.length vc0] 54)).heap.size, 0, none⟩) 0 0) 0 []) := Lib.hid ⟨rfl, .inr ⟨(w.alloc (.cells #[.int .i64 7, .string path, .string old, .int .i64 at_, .slice va0 data.length vc0] 54)).heap.size, 0, #[], rfl, Nat.le_refl _, blk_new rfl, Nat.le_refl _, by decide, rfl, rfl⟩⟩
    have hzz : (w.alloc (.cells #[.int .i64 7, .string path, .string old, .int .i64 at_, .slice va0 data.length vc0] 54)).heap.size ≤ ((w.alloc (.cells #[.int .i64 7, .string path, .string old, .int .i64 at_, .slice va0 data.length vc0] 54)).alloc (.cells #[] 5)).heap.size := by simp
    have hs1 : (w.alloc (.cells #[.int .i64 7, .string path, .string old, .int .i64 at_, .slice va0 data.length vc0] 54)).heap.size = w.heap.size + 1 := by simp
    have HS1 := Lib.hid hs1
    have ow1 := OW.out
    rw [hs1] at ow1
    have OW1 : Hid (((w.alloc (.cells #[.int .i64 7, .string path, .string old, .int .i64 at_, .slice va0 data.length vc0] 54)).alloc (.cells #[] 5)).ownsRow (w.heap.size + 1) 5 1 (.slice (some ⟨w.heap.size + 1, 0, none⟩) 0 0) 0 []) := Lib.hid ow1
    have hz1 : w.heap.size + 1 ≤ ((w.alloc (.cells #[.int .i64 7, .string path, .string old, .int .i64 at_, .slice va0 data.length vc0] 54)).alloc (.cells #[] 5)).heap.size := by simp
    clear hs1 ow1
    clear h hF0 hbx hp ho hl hsrc hb hr hbw hB
    go_enter Try.func24, Try.ntmps24
    go_wp2_with (refine wpList_append_g (by rfl) (.tmp 57) (.tmp 59) (by rfl) elByte (by rfl) OW1.out (by rfl) HSRC.out (by have := HLEN.out; unfold maxLen; omega) (by have := HLEN.out; omega) hz1 ?_)
    intro v2 w2 ho2 hf2 hv2
    rw [← HS1.out] at ho2 hf2
    clear OW1 hz1
    have hszb : w.heap.size < (w.alloc (.cells #[.int .i64 7, .string path, .string old, .int .i64 at_, .slice va0 data.length vc0] 54)).heap.size := by simp
    generalize (w.alloc (.cells #[.int .i64 7, .string path, .string old, .int .i64 at_, .slice va0 data.length vc0] 54)) = wb at *
    have hbe : Below wb.heap.size wb w2 := ((Below.refl wb.heap.size wb).alloc (Nat.le_refl _) (.cells #[] 5)).trans (hf2.toBelow hzz fun y hy => (OW.out.lt y hy).1)
    have ho2 : w2.ownsRow wb.heap.size 5 1 v2 data.length (u8s data) := ho2
    have HF2 := Lib.hid (HF0.out.below hbe)
    have hbx2 := (hbe.block _ (blk_lt HBX.out)).trans HBX.out
    have hnf : ∀ g, v2.ownBlock = some g → ¬ F0 g := fun g hg hF => by
      have := (ho2.lt g hg).1
      have := HF0.out.lt g hF
      omega
    obtain ⟨va, vc, rfl⟩ := own_shape ho2
    obtain ⟨g, hg0, hg1, hrow⟩ := byteRow_own (w0 := wb) ho2 (fun u hu => by
      unfold u8s at hu
      obtain ⟨z, _, rfl⟩ := List.mem_map.1 hu
      exact ⟨z, rfl⟩) (Nat.le_refl _) (by have := hbe.size; have := hf2.size; simp at this; omega)
    have hgF : ¬ F0 g := fun hF => by have := HF0.out.lt g hF; omega
    have hC := write_any HF2.out.at_ HF2.out.good.1 path HP.out at_ HR.out (SrcG.of_own ho2 (u8s_one data)) (fun h0 a c ad e1 e2 hF => by
      injection e1 with e1 _ _
      subst e1
      rcases hrow with q | ⟨q, _⟩
      · omega
      · rw [q] at e2
        injection e2 with e2
        rw [← e2] at hF
        exact hgF hF) HLEN.out
    have HC := Lib.hid hC; have HGF := Lib.hid hgF; have HROW := Lib.hid hrow; have HG1 := Lib.hid hg1; have HG0 := Lib.hid hg0
    have HGW : Hid (w0.heap.size ≤ g) := Lib.hid (Nat.le_trans HF0.out.bel.size hg0)
    have HGD := Lib.hid (HF2.out.good.write path at_ HBY.out)
    have c1 := cell_blk_some hbx2 (i := 1) rfl
    have c3 := cell_blk_some hbx2 (i := 3) rfl
    generalize writeN M path at_ data = r at *
    clear ho2 hf2 hv2 hbe hbx2 hnf hrow hgF hC hg1 hg0 OW HSRC hzz HBX HF0 hszb
    go_wp2_with fail
    refine HC.out.mono ?_
    rintro e w3 ⟨rfl, hl3⟩
    have hg3 := hl3.2.block g HG1.out HGF.out
    have HROW3 : Hid (ByteRow w3 g data.length va) := Lib.hid (HROW.out.imp id fun ⟨q1, cur, q2, q3⟩ => ⟨q1, cur, by rw [hg3]; exact q2, q3⟩)
    obtain ⟨F', hF', hn'⟩ := HF2.out.left hl3 HGD.out
    have HF3 := Lib.hid hF'; have HN3 : Hid (¬ F' g) := Lib.hid (hn' g HG1.out HGF.out)
    clear hl3 hg3 hF' hn' HC HROW c1 c3
    generalize data.length = n at *
    have hn6 : n ≤ 1000000 := HLEN.out
    go_wp2_with fail
    go_loopw [70] (fun i wr => ∃ k : Nat, k ≤ n ∧ i = .int .i64 k ∧ Fr (fun x => x = g) w3 wr ∧ ByteRow wr g n va) (fun i _ => n - (RowKit.intOf i).toNat)
    case atStart => exact ⟨0, Nat.zero_le _, rfl, Fr.refl _ _, HROW3.out⟩
    case round =>
      obtain ⟨k, hk, rfl, hfr, hrw⟩ := hrel
      have HFR := Lib.hid hfr
      clear hfr HROW3
      by_cases hlt : k < n
      · rcases hrw with h0 | ⟨rfl, cur, hbb, hz⟩
        · omega
        · obtain ⟨z, hz1⟩ := hz k hlt
          have c1 := cell_blk_some hbb hz1
          have f1 := free_blk (i := k) hbb
          have hnew := blk_set (i := k) hbb (.int .u8 (IntKind.u8.wrap (z + 1)))
          have hks : k < cur.size := (Array.getElem?_eq_some_iff.1 hz1).1
          have hz2 : ∀ j, j < n → ∃ z', (cur.setIfInBounds k (.int .u8 (IntKind.u8.wrap (z + 1))))[j]? = some (.int .u8 z') := fun j hj => by
            by_cases hkj : k = j
            · subst hkj
              exact ⟨_, by rw [Array.getElem?_setIfInBounds, if_pos rfl, if_pos hks]⟩
            · rw [Array.getElem?_setIfInBounds, if_neg hkj]
              exact hz j hj
          have m1 : (k : Int) < (n : Int) := by omega
          have m2 : (0 : Int) ≤ (k : Int) := by omega
          have HN := Lib.hid hnew; have HZ := Lib.hid hz2
          clear hbb hz hz1 hnew hz2 hks
          go_wp2_with fail
          go_roundw
          case rel => exact ⟨k + 1, by omega, by go_num, HFR.out.setCell ⟨g, k, none⟩ rfl _, .inr ⟨rfl, _, HN.out, HZ.out⟩⟩
          case measure => simp [RowKit.intOf]; omega
      · obtain rfl : k = n := by omega
        have HEND := Lib.hid (HF3.out.other HFR.out (fun b hb => by rw [hb]; exact HGW.out) (fun b hb e => HN3.out (by rw [← e]; exact hb))).at0
        clear hrw HFR
        go_wp2_with fail
        go_ret2
        rw [HRES.out]
        exact ⟨rfl, HEND.out⟩
  by_cases h8 : kind = 8
  · subst h8
    have HC := Lib.hid (hB.trunc path hp at_ hr)
    have HRES : Hid (doN M cap ⟨8, path, old, at_, data⟩ = (0, truncN M path at_)) := Lib.hid (by unfold doN; dsimp only; rw [if_neg (by decide)]; rw [if_neg (by decide)]; rw [if_neg (by decide)]; rw [if_neg (by decide)]; rw [if_neg (by decide)]; rw [if_neg (by decide)]; rw [if_neg (by decide)]; rw [if_pos rfl])
    generalize truncN M path at_ = r at *
    clear h hp ho hl hsrc hb hr hbw hB
    go_enter Try.func24, Try.ntmps24
    go_wp2_with fail
    refine HC.out.mono ?_
    rintro e w1 ⟨rfl, hl1⟩
    have HL := Lib.hid hl1
    clear hl1 HC
    go_wp2_with fail
    go_ret2
    rw [HRES.out]
    exact ⟨rfl, HL.out⟩
  have q1 : (kind == 1) = false := by simp [h1]
  have q2 : (kind == 2) = false := by simp [h2]
  have q3 : (kind == 3) = false := by simp [h3]
  have q4 : (kind == 4) = false := by simp [h4]
  have q5 : (kind == 5) = false := by simp [h5]
  have q6 : (kind == 6) = false := by simp [h6]
  have q7 : (kind == 7) = false := by simp [h7]
  have q8 : (kind == 8) = false := by simp [h8]
  have HRES : Hid (doN M cap ⟨kind, path, old, at_, data⟩ = (0, 0, M)) := Lib.hid (by
    unfold doN
    rw [if_neg h1, if_neg h2, if_neg h3, if_neg h4, if_neg h5, if_neg h6, if_neg h7, if_neg h8])
  have HL := Lib.hid hB
  clear h h1 h2 h3 h4 h5 h6 h7 h8 hp ho hl hsrc hb hr hbw hB
  go_enter Try.func24, Try.ntmps24
  go_wp2_with fail
  go_ret2
  rw [HRES.out]
  exact ⟨rfl, HL.out⟩
end
end Go.Proofs.Ytoofcnehoffllaa

namespace Go.Proofs.Ytoofcnehoffllaa
open Go.RowKit

theorem goE_same {e e' : EM} {p : Nat} {en : ByteArray} (hp : e p en = none) (h : ∀ x t, ¬ (x = p ∧ t = en) → e' x t = e x t) : ∀ (l : List ByteArray) (i j : Nat), goE e i l = some j → goE e' i l = some j
  | [], i, j, hg => hg
  | s :: l, i, j, hg => by
    rw [goE_cons] at hg ⊢
    by_cases hc : i = p ∧ s = en
    · rw [hc.1, hc.2, hp] at hg; cases hg
    · rw [h i s hc]
      cases hx : e i s with
      | none => rw [hx] at hg; cases hg
      | some k =>
        rw [hx] at hg
        exact goE_same hp h l k j hg
/-- A path that led somewhere leads by the new entry nowhere else. -/
theorem goE_putback {e : EM} {p n : Nat} {en : ByteArray} (hp : e p en = none) : ∀ (l : List ByteArray) (i k j : Nat) (d : EM), (∀ x t y, d x t = some y → e x t = some y) → goE e i l = some k → goE (putE d p en (some n)) i l = some j → goE d i l = some j
  | [], i, k, j, d, hd, h1, h2 => h2
  | s :: l, i, k, j, d, hd, h1, h2 => by
    rw [goE_cons] at h1 h2 ⊢
    by_cases hc : i = p ∧ s = en
    · rw [hc.1, hc.2, hp] at h1; cases h1
    · rw [putE_other hc] at h2
      cases hx : d i s with
      | none => rw [hx] at h2; cases h2
      | some y =>
        rw [hx] at h2
        rw [hd i s y hx] at h1
        exact goE_putback hp l y k j d hd h1 h2
section
variable {M : TM} {cap : Nat}
theorem look_of {s : ByteArray} {p i : Nat} (hp : parE s = 0) (hl : goE (entN M) 2 (parN s) = some p) (he : entN M p (parL s) = some i) : lookN M s = if splitD s && !isDir M i then .inr 20 else .inl i := by
  obtain ⟨h0, hs⟩ := par_split hp
  unfold lookN
  rw [if_neg (by rw [h0]; simp), hs, (lead_goE _ _ _).2 (goE_snoc.2 ⟨p, hl, he⟩)]
theorem look_to {s : ByteArray} {i : Nat} (hp : parE s = 0) (hl : lookN M s = .inl i) : goE (entN M) 2 (parN s ++ [parL s]) = some i := by
  obtain ⟨p, h1, h2⟩ := look_par hp hl
  exact goE_snoc.2 ⟨p, (lead_goE _ _ _).1 h1, h2⟩
theorem stat_ok {s : ByteArray} {i : Nat} (h : lookN M s = .inl i) : statN M s = (((i : Int), (if isDir M i then 2 else 1), lkN M i, ((datN M i).length : Int)), 0) := by unfold statN; rw [h]
theorem stat_no {s : ByteArray} {c : Int} (h : lookN M s = .inr c) : statN M s = ((0, 0, 0, 0), c) := by unfold statN; rw [h]
theorem read_ok {s : ByteArray} {i : Nat} (h : lookN M s = .inl i) : readN M s 0 4096 = if isDir M i then ([], 21) else ((datN M i).take 4096, 0) := by
  unfold readN fileN
  rw [h]
  dsimp only
  by_cases hd : isDir M i = true
  · rw [if_pos hd, if_pos hd]
  · rw [if_neg hd, if_neg hd]
    dsimp only
    rw [if_neg (by omega)]
    rfl
/-- What is so behind a move that was not refused. -/
theorem moves_plain (hG : Good M cap) {old s : ByteArray} (h0 : (renameN M old s).1 = 0) : ∃ n, lookN M old = .inl n ∧ lookN (renameN M old s).2 s = .inl n ∧ isDir (renameN M old s).2 n = isDir M n ∧ lkN (renameN M old s).2 n = lkN M n ∧ datN (renameN M old s).2 n = datN M n ∧
    ((lookN M s = .inl n ∧ lookN (renameN M old s).2 old = .inl n) ∨ (lookN M s ≠ .inl n ∧ ∃ c, c ≠ 0 ∧ lookN (renameN M old s).2 old = .inr c)) := by
  unfold renameN at h0 ⊢
  by_cases h1 : parE old = 0
  rotate_left
  · rw [if_pos h1] at h0; exact absurd h0 h1
  rw [if_neg (show ¬ parE old ≠ 0 by rw [h1]; simp)] at h0 ⊢
  by_cases h2 : parE s = 0
  rotate_left
  · rw [if_pos h2] at h0; exact absurd h0 h2
  rw [if_neg (show ¬ parE s ≠ 0 by rw [h2]; simp)] at h0 ⊢
  cases hq : lookN M old with
  | inr c => rw [hq] at h0; exact absurd h0 (look_code hq)
  | inl n =>
    rw [hq] at h0
    dsimp only at h0 ⊢
    by_cases hc : placeC M s = 0
    rotate_left
    · rw [if_pos hc] at h0; exact absurd h0 hc
    rw [if_neg (show ¬ placeC M s ≠ 0 by rw [hc]; simp)] at h0 ⊢
    obtain ⟨f, hlf, hef⟩ := look_par h1 hq
    cases hlp : leadN M 2 (parN s) with
    | inr c =>
      exfalso
      unfold placeC at hc
      rw [if_neg (by rw [h2]; simp), hlp] at hc
      exact lead_code hlp hc
    | inl p =>
      rw [hlp] at h0
      dsimp only at h0 ⊢
      have hpd : isDir M p = true := by
        unfold placeC at hc
        rw [if_neg (by rw [h2]; simp), hlp] at hc
        have hc : (if isDir M p = true then (0 : Int) else 20) = 0 := hc
        cases hd : isDir M p with
        | true => rfl
        | false => rw [hd] at hc; cases hc
      by_cases hp : (isDir M n && isPre (parN old ++ [parL old]) (parN s)) = true
      · rw [if_pos hp] at h0; cases h0
      rw [if_neg hp] at h0 ⊢
      have hp' := Bool.eq_false_iff.2 hp
      by_cases hsd : (splitD s && !isDir M n) = true
      · rw [if_pos hsd] at h0; cases h0
      rw [if_neg hsd] at h0 ⊢
      have hgo := (lead_goE _ _ _).1 hlp
      have fin : ∀ {M1 : TM}, MvOk M M1 old s p n f → (∀ x, (M1 x).isSome = true → x = n → lkN M1 x = lkN M x ∧ datN M1 x = datN M x) → lookN M s ≠ .inl n → (movedN M M1 old s p n).1 = 0 →
          lookN (movedN M M1 old s p n).2 s = .inl n ∧ isDir (movedN M M1 old s p n).2 n = isDir M n ∧ lkN (movedN M M1 old s p n).2 n = lkN M n ∧ datN (movedN M M1 old s p n).2 n = datN M n ∧
          ((lookN M s = .inl n ∧ lookN (movedN M M1 old s p n).2 old = .inl n) ∨ (lookN M s ≠ .inl n ∧ ∃ c, c ≠ 0 ∧ lookN (movedN M M1 old s p n).2 old = .inr c)) := fun {M1} hm hld hne hz => by
        obtain ⟨g1, l1, e1, l2, d2, e2, mono, dd⟩ := hm.facts hG
        unfold movedN at hz ⊢
        by_cases hl : (isDir M n && decide (255 < longN (parN s ++ [parL s]) + deepN M n)) = true
        · rw [if_pos hl] at hz; cases hz
        rw [if_neg hl, l1]
        dsimp only
        have hgm := hG.moved hm h2 hl
        obtain ⟨he, hd, hsm, hlk, hdt⟩ := move_same (n := n) (last := parL old) (en := parL s) (ent_dir e1) d2
        have hn1 := g1.1.ok.ent f (parL old) n e1
        obtain ⟨q1, q2⟩ := hld n hn1 rfl
        have hdn : isDir (moveM M1 f (parL old) p (parL s) n) n = isDir M n := (hd n).trans (dd n hn1)
        have hpn : goE (entN M) 2 (parN old ++ [parL old]) = some n := goE_snoc.2 ⟨f, (lead_goE _ _ _).1 hlf, hef⟩
        have hno : ∀ l, goE (entN M1) n l ≠ some p := fun l hg => by
          have hg' := goE_mono mono l n p hg
          cases hdn' : isDir M n with
          | false =>
            obtain ⟨_, hpe⟩ := goE_sub (ent_file hdn') l p hg'
            rw [hpe, hdn'] at hpd; cases hpd
          | true =>
            have h3 : goE (entN M) 2 (parN old ++ [parL old] ++ l) = some p := by rw [goE_append, hpn]; exact hg'
            have := hG.1.uniq (parN s).length (parN s) _ p (Nat.le_refl _) hpd hgo h3
            rw [hdn', Bool.true_and] at hp'
            unfold isPre at hp'
            rw [decide_eq_false_iff_not] at hp'
            exact hp' (by rw [this]; exact List.take_left.symm)
        have hgp : goE (putE (entN M1) f (parL old) none) 2 (parN s) = some p := by
          rcases goE_del e1 (parN s) 2 p ((lead_goE _ _ _).1 l2) with h | ⟨la, lb, _, _, hb⟩
          · exact h
          · exact absurd hb (hno lb)
        have hpe : (putE (entN M1) f (parL old) none) p (parL s) = none := by
          unfold putE
          split
          · rfl
          · exact e2
        have hgs : goE (entN (moveM M1 f (parL old) p (parL s) n)) 2 (parN s) = some p := by
          rw [he]
          exact goE_same hpe (fun x t ht => putE_other ht) (parN s) 2 p hgp
        refine ⟨?_, hdn, (hlk n).trans q1, (hdt n).trans q2, .inr ⟨hne, ?_⟩⟩
        · rw [look_of h2 hgs (by rw [he]; exact putE_self), hdn, if_neg hsd]
        · cases hlo : lookN (moveM M1 f (parL old) p (parL s) n) old with
          | inr c => exact ⟨c, look_code hlo, rfl⟩
          | inl j =>
            exfalso
            have hgj := look_to h1 hlo
            rw [he] at hgj
            have hd0 : ∀ x t y, (putE (entN M1) f (parL old) none) x t = some y → entN M1 x t = some y := fun x t y hx => by
              unfold putE at hx
              split at hx
              · cases hx
              · exact hx
            have := goE_putback e2 (parN old ++ [parL old]) 2 n j _ hd0 (goE_snoc.2 ⟨f, (lead_goE _ _ _).1 l1, e1⟩) hgj
            obtain ⟨y, hy1, hy2⟩ := goE_snoc.1 this
            have hy3 := goE_mono hd0 (parN old) 2 y hy1
            rw [(lead_goE _ _ _).1 l1] at hy3
            injection hy3 with hy3
            rw [← hy3, putE_self] at hy2
            cases hy2
      have hpt := hpd
      refine ⟨n, rfl, ?_⟩
      cases he : entN M p (parL s) with
      | none =>
        rw [he] at h0
        refine fin ⟨hlf, hef, hlp, hpd, hp', .inl ⟨he, rfl⟩⟩ (fun _ _ _ => ⟨rfl, rfl⟩) (fun hl => ?_) h0
        have := look_to h2 hl
        obtain ⟨y, hy1, hy2⟩ := goE_snoc.1 this
        rw [hgo] at hy1
        injection hy1 with hy1
        rw [← hy1, he] at hy2
        cases hy2
      | some t =>
        rw [he] at h0
        dsimp only at h0 ⊢
        by_cases htn : t = n
        · rw [if_pos htn]
          have hls : lookN M s = .inl n := by rw [look_of h2 hgo he, htn, if_neg hsd]
          exact ⟨hls, rfl, rfl, rfl, .inl ⟨hls, hq⟩⟩
        · rw [if_neg htn] at h0 ⊢
          by_cases hw : wrongN M t (isDir M n) = 0
          rotate_left
          · rw [if_pos hw] at h0; exact absurd h0 hw
          rw [if_neg (show ¬ wrongN M t (isDir M n) ≠ 0 by rw [hw]; simp)] at h0 ⊢
          obtain ⟨nt, hmt⟩ := Option.isSome_iff_exists.1 (hG.1.ok.ent p (parL s) t he)
          refine fin ⟨hlf, hef, hlp, hpd, hp', .inr ⟨t, he, htn, wrong_none hw, rfl⟩⟩ (fun x hx hxn => ?_) (fun hl => ?_) h0
          · obtain ⟨a, b⟩ := drop_lk hmt he x hx
            rw [if_neg (fun e => htn (by rw [← e, hxn]))] at a
            exact ⟨a, b⟩
          · have := look_to h2 hl
            obtain ⟨y, hy1, hy2⟩ := goE_snoc.1 this
            rw [hgo] at hy1
            injection hy1 with hy1
            rw [← hy1, he] at hy2
            injection hy2 with hy2
            exact htn hy2
end
end Go.Proofs.Ytoofcnehoffllaa

namespace Go.Proofs.Ytoofcnehoffllaa
open Go.RowKit

theorem moves_law {M : TM} {cap : Nat} (hG : Good M cap) {old s : ByteArray} (h0 : (renameN M old s).1 = 0) : (statN M old).2 = 0 ∧ statN (renameN M old s).2 s = statN M old ∧ readN (renameN M old s).2 s 0 4096 = readN M old 0 4096 ∧
    (((statN M s).2 = 0 ∧ (statN M s).1.1 = (statN M old).1.1 ∧ (statN (renameN M old s).2 old).2 = 0) ∨ (((statN M s).2 ≠ 0 ∨ ((statN M s).2 = 0 ∧ (statN M s).1.1 ≠ (statN M old).1.1)) ∧ (statN (renameN M old s).2 old).2 ≠ 0)) := by
  obtain ⟨n, h1, h2, h3, h4, h5, h6⟩ := moves_plain hG h0
  refine ⟨by rw [stat_ok h1], by rw [stat_ok h1, stat_ok h2, h3, h4, h5], by rw [read_ok h1, read_ok h2, h3, h5], ?_⟩
  rcases h6 with ⟨a, b⟩ | ⟨a, c, hc, b⟩
  · exact .inl ⟨by rw [stat_ok a], by rw [stat_ok a, stat_ok h1], by rw [stat_ok b]⟩
  · refine .inr ⟨?_, by rw [stat_no b]; exact hc⟩
    cases hq : lookN M s with
    | inr d => exact .inl (by rw [stat_no hq]; exact look_code hq)
    | inl m =>
      refine .inr ⟨by rw [stat_ok hq], ?_⟩
      rw [stat_ok hq, stat_ok h1]
      intro e
      have e : (m : Int) = (n : Int) := e
      exact a (by rw [hq, show m = n by omega])
set_option maxHeartbeats 16000000 in
set_option maxRecDepth 100000 in
theorem lawMoves_any (v0 : Value) (ops : List (TOp × Value)) (old s : ByteArray) (W : World) (hx : TOpsAt W v0 ops) (hos : old.size ≤ 140737488355328) (hss : s.size ≤ 140737488355328) :
    Calls Try.prog 6 #[v0, .string old, .string s] W fun e w' => e = .returned (.bool true) ∧ Below W.heap.size W w' := by
  have HA := Lib.hid awake_any
  obtain ⟨xa, xc, rfl, hxx⟩ := hx
  have HX := Lib.hid hxx
  have hw : IntKind.i64.wrap ((old.size : Int) + (s.size : Int)) = (old.size : Int) + (s.size : Int) := IntWalk.i64_in _ (by omega)
  clear hxx
  by_cases h600 : 600 < old.size + s.size
  · have q1 : decide ((600 : Int) < (old.size : Int) + (s.size : Int)) = true := dec_true (by omega)
    have q2 : (600 : Int) < (old.size : Int) + (s.size : Int) := by omega
    go_enter Try.func6, Try.ntmps6
    go_wp2_with fail
    refine (HA.out _).mono ?_
    rintro e w1 ⟨rfl, hb1⟩
    have HB1 := Lib.hid hb1
    clear hb1
    go_wp2_with fail
    refine (HA.out _).mono ?_
    rintro e w2 ⟨rfl, hb2⟩
    have HB2 := Lib.hid (below_call HB1.out hb2 (Nat.le_refl _))
    clear hb2
    go_wp2_with fail
    go_ret
    exact ⟨rfl, HB2.out⟩
  · have q1 : decide ((600 : Int) < (old.size : Int) + (s.size : Int)) = false := dec_false (by omega)
    have q2 : (old.size : Int) + (s.size : Int) ≤ 600 := by omega
    have HO : Hid (old.size ≤ 1000000) := Lib.hid (by omega)
    have HS : Hid (s.size ≤ 1000000) := Lib.hid (by omega)
    clear h600 hos hss
    go_enter Try.func6, Try.ntmps6
    go_wp2_with fail
    refine (HA.out _).mono ?_
    rintro e w1 ⟨rfl, hb1⟩
    have HB1 := Lib.hid hb1
    have HN := Lib.hid (new_any (n := 20) (by decide) (by decide) w1)
    clear hb1 HA
    go_wp2_with fail
    refine HN.out.mono ?_
    rintro e w2 ⟨tb, nb, eb, b2, rfl, hT, h1, h2, h3, h4, hb2⟩
    have hs1 := HB1.out.size
    have L0 := Lib.hid (LAt.new (w0 := W) (by decide) hT (by omega) (by omega) (by omega) (by omega) (below_call HB1.out hb2 (Nat.le_refl _)))
    clear HN hT h1 h2 h3 h4 hb2 hs1 q1 q2 hw
    go_wp2_with fail
    go_loopw [9] (fun i wy => ∃ (t : Nat) (M : TM), t ≤ ops.length ∧ t ≤ 40 ∧ i = .int .i64 t ∧ LAt W wy tb 21 M) (fun i _ => ops.length - (RowKit.intOf i).toNat)
    case atStart => exact ⟨0, newM, by omega, by omega, rfl, L0.out⟩
    case round =>
      obtain ⟨t, M, ht, ht40, rfl, hst⟩ := hrel
      have HST := Lib.hid hst
      clear hst L0
      by_cases htl : t < ops.length ∧ t < 40
      · obtain ⟨c1, c2⟩ := htl
        have q3 : decide ((t : Int) < (ops.length : Int)) = true := dec_true (by omega)
        have q4 : decide ((t : Int) < 40) = true := dec_true (by omega)
        have q5 : (t : Int) < (ops.length : Int) := by omega
        have q6 : (0 : Int) ≤ (t : Int) := by omega
        obtain ⟨g, o, rfl, hg, hat⟩ := HX.out (by omega)
        obtain ⟨x, hxt⟩ : ∃ x, ops[t]? = some x := ⟨_, List.getElem?_eq_getElem c1⟩
        obtain ⟨k0, k1, k2, k3, k4, hrng, hdat, hbyt⟩ := (hat t x hxt).below hg HST.out.bel
        have HF := Lib.hid (fits_any x (by obtain ⟨a, c, h, _⟩ := hdat; exact ⟨a, c, h⟩) wr)
        have HRNG := Lib.hid hrng.2; have HDAT := Lib.hid hdat; have HBYT := Lib.hid hbyt; have HAT := Lib.hid (hat t x hxt); have HG := Lib.hid hg
        clear hat hxt hrng hdat hbyt hg
        unfold opT at HF
        cases hfit : fitsN x.1 with
        | false =>
          rw [hfit] at HF
          clear hfit
          go_wp2_with fail
          refine HF.out.mono ?_
          rintro e w3 ⟨rfl, hb3⟩
          have HL := Lib.hid (HST.out.below hb3)
          clear hb3
          go_wp2_with fail
          go_roundw
          case rel => exact ⟨t + 1, M, by omega, by omega, by go_num, HL.out⟩
          case measure => simp only [RowKit.intOf]; omega
        | true =>
          have hsz : x.1.path.size ≤ 300 ∧ x.1.old.size ≤ 300 ∧ x.1.data.length ≤ 4200 := by
            unfold fitsN at hfit
            simp only [Bool.and_eq_true, decide_eq_true_eq] at hfit
            exact ⟨hfit.1.1, hfit.1.2, hfit.2⟩
          have HSZ := Lib.hid hsz
          rw [hfit] at HF
          clear hfit hsz
          go_wp2_with fail
          refine HF.out.mono ?_
          rintro e w3 ⟨rfl, hb3⟩
          have HL := Lib.hid (HST.out.below hb3)
          obtain ⟨z0, z1, z2, z3, z4, -⟩ := HAT.out.below HG.out HL.out.bel
          have HD := Lib.hid (do_any HL.out x (by have := HSZ.out.1; omega) (by have := HSZ.out.2.1; omega) (by have := HSZ.out.2.2; omega) HRNG.out (HDAT.out.src HL.out.bel) HBYT.out)
          unfold opT at HD
          clear hb3 HF k0 k1 k2 k3 k4
          go_wp2_with fail
          refine HD.out.mono ?_
          rintro e w4 ⟨rfl, hl4⟩
          have HL4 := Lib.hid hl4
          clear hl4 HD z0 z1 z2 z3 z4
          go_wp2_with fail
          go_roundw
          case rel => exact ⟨t + 1, _, by omega, by omega, by go_num, HL4.out⟩
          case measure => simp only [RowKit.intOf]; omega
      · have hq : (decide ((t : Int) < (ops.length : Int)) && decide ((t : Int) < 40)) = false := by
          by_cases h1 : (t : Int) < (ops.length : Int)
          · rw [decide_eq_true h1, decide_eq_false (show ¬ (t : Int) < 40 by omega)]; rfl
          · rw [decide_eq_false h1]; rfl
        obtain ⟨F, hF⟩ := HST.out.ft
        have HF := Lib.hid hF
        have S1 := Lib.hid (HST.out.stat old HO.out)
        generalize hA : statN M old = A at S1
        obtain ⟨⟨a1, a2, a3, a4⟩, a5⟩ := A
        have HAA := Lib.hid hA
        clear hF hA
        unfold statV statA at S1
        dsimp only at S1
        have fin : Hid (∀ P : Prop, P → P) := Lib.hid fun _ h => h
        by_cases htl1 : t < ops.length
        all_goals
          first
            | (have r1 : decide ((t : Int) < (ops.length : Int)) = true := dec_true (by omega)
               have r2 : decide ((t : Int) < 40) = false := dec_false (by omega)
               have r3 : (t : Int) < (ops.length : Int) := by omega
               have r4 : ¬ (t : Int) < 40 := by omega
               clear hq htl htl1
               go_wp2_with fail)
            | (have r1 : decide ((t : Int) < (ops.length : Int)) = false := dec_false (by omega)
               have r3 : ¬ (t : Int) < (ops.length : Int) := by omega
               clear hq htl htl1
               go_wp2_with fail)
          refine S1.out.mono ?_
          rintro e w1 ⟨rfl, hb1⟩
          have hba1 : Below wr.heap.size wr (w1.alloc (.cells #[.int .i64 a1, .int .i64 a2, .int .i64 a3, .int .i64 a4] 39)) := below_call hb1 ((Below.refl w1.heap.size w1).alloc (Nat.le_refl _) _) (Nat.le_refl _)
          have hox1 : (w1.alloc (.cells #[.int .i64 a1, .int .i64 a2, .int .i64 a3, .int .i64 a4] 39)).heap[w1.heap.size]? = some (.cells #[.int .i64 a1, .int .i64 a2, .int .i64 a3, .int .i64 a4] 39 (0, 0)) := blk_new rfl
          have HBA1 := Lib.hid hba1; have HOX1 := Lib.hid hox1; have HX1 := Lib.hid hb1.size
          clear hb1 hba1 hox1 S1
          go_wp2_with fail
          generalize w1.alloc (.cells #[.int .i64 a1, .int .i64 a2, .int .i64 a3, .int .i64 a4] 39) = wb at *
          generalize w1.heap.size = x1 at *
          have S2 := Lib.hid ((HST.out.below HBA1.out).stat s HS.out)
          generalize hE : statN M s = E at S2
          obtain ⟨⟨e1, e2, e3, e4⟩, e5⟩ := E
          have HEE := Lib.hid hE
          clear hE
          unfold statV statA at S2
          dsimp only at S2
          refine S2.out.mono ?_
          rintro e w2 ⟨rfl, hb2⟩
          have hba2 : Below wb.heap.size wb (w2.alloc (.cells #[.int .i64 e1, .int .i64 e2, .int .i64 e3, .int .i64 e4] 39)) := below_call hb2 ((Below.refl w2.heap.size w2).alloc (Nat.le_refl _) _) (Nat.le_refl _)
          have hox2 : (w2.alloc (.cells #[.int .i64 e1, .int .i64 e2, .int .i64 e3, .int .i64 e4] 39)).heap[w2.heap.size]? = some (.cells #[.int .i64 e1, .int .i64 e2, .int .i64 e3, .int .i64 e4] 39 (0, 0)) := blk_new rfl
          have HBA2 := Lib.hid (below_call HBA1.out hba2 (Nat.le_refl _)); have HOX2 := Lib.hid hox2; have HX2 : Hid (wr.heap.size ≤ w2.heap.size) := Lib.hid (Nat.le_trans HBA1.out.size hb2.size)
          have HOX1b := Lib.hid ((hba2.block _ (blk_lt HOX1.out)).trans HOX1.out)
          clear hb2 hba2 hox2 S2 HOX1
          go_wp2_with fail
          generalize w2.alloc (.cells #[.int .i64 e1, .int .i64 e2, .int .i64 e3, .int .i64 e4] 39) = wc at *
          generalize w2.heap.size = x2 at *
          have HFC := Lib.hid (HF.out.below HBA2.out)
          have R1 := Lib.hid (read_any HFC.out.at_ HFC.out.good.1 old HO.out 0 4096 (by decide) (by decide))
          generalize hRD : readN M old 0 4096 = RD at R1
          obtain ⟨bl, bc⟩ := RD
          have HRD := Lib.hid hRD
          clear hRD
          dsimp only at R1
          refine R1.out.mono ?_
          rintro e w3 ⟨vb, rfl, hob, hb3⟩
          have HB3 := Lib.hid (below_call HBA2.out hb3 (Nat.le_refl _))
          have HOX1c := Lib.hid ((hb3.block _ (blk_lt HOX1b.out)).trans HOX1b.out); have HOX2c := Lib.hid ((hb3.block _ (blk_lt HOX2.out)).trans HOX2.out)
          have HSB := Lib.hid (SrcG.of_own hob (u8s_one bl))
          have HVB : Hid (∀ b, vb.ownBlock = some b → wr.heap.size ≤ b) := Lib.hid fun b h => Nat.le_trans HBA2.out.size (hob.lt b h).1
          obtain ⟨va, vc, rfl⟩ := own_shape hob
          have HF3 := Lib.hid (HF.out.below HB3.out)
          have RN := Lib.hid (rename_any HF3.out.at_ HF3.out.good old s HO.out HS.out)
          have HGD := Lib.hid (HF3.out.good.rename old s)
          clear hob hb3 R1 HOX1b HOX2
          go_wp2_with fail
          refine RN.out.mono ?_
          rintro e w4 ⟨rfl, hl4⟩
          obtain ⟨F', hF', -⟩ := HF3.out.left hl4 HGD.out
          have HF4 := Lib.hid hF'
          by_cases hz : (renameN M old s).1 = 0
          · obtain ⟨p1, p2, p3, p4⟩ := moves_law HF.out.good hz
            have hfr := hl4.2
            have hxF : ∀ x, wr.heap.size ≤ x → ¬ F x := fun x h hFx => by have := HF.out.lt x hFx; omega
            have HOX1d := Lib.hid ((hfr.block x1 (blk_lt HOX1c.out) (hxF x1 HX1.out)).trans HOX1c.out)
            have HOX2d := Lib.hid ((hfr.block x2 (blk_lt HOX2c.out) (hxF x2 HX2.out)).trans HOX2c.out)
            have HSB4 := Lib.hid (HSB.out.fr hfr fun h0 a c ad h1 h2 => hxF _ (HVB.out _ (by
              rw [h1, h2]
              rfl)))
            have HZ := Lib.hid hz
            rw [HAA.out] at p1 p2 p4
            rw [HRD.out] at p3
            rw [HEE.out] at p4
            dsimp only at p1 p4
            subst p1
            have HP4 := Lib.hid p4
            have S3 := Lib.hid (HF4.out.at0.stat s HS.out)
            rw [p2] at S3
            unfold statV statA at S3
            dsimp only at S3
            rw [hz]
            clear hl4 hfr hz p2 p4 RN HOX1c HOX2c HSB hF'
            generalize (renameN M old s).2 = M' at *
            have HP3 := Lib.hid p3
            clear p3
            go_wp2_with fail
            refine S3.out.mono ?_
            rintro e w5 ⟨rfl, hb5⟩
            have hba5 : Below w4.heap.size w4 (w5.alloc (.cells #[.int .i64 a1, .int .i64 a2, .int .i64 a3, .int .i64 a4] 39)) := below_call hb5 ((Below.refl w5.heap.size w5).alloc (Nat.le_refl _) _) (Nat.le_refl _)
            have hox5 : (w5.alloc (.cells #[.int .i64 a1, .int .i64 a2, .int .i64 a3, .int .i64 a4] 39)).heap[w5.heap.size]? = some (.cells #[.int .i64 a1, .int .i64 a2, .int .i64 a3, .int .i64 a4] 39 (0, 0)) := blk_new rfl
            have HBA5 := Lib.hid hba5; have HOX5 := Lib.hid hox5
            clear hb5 hba5 hox5 S3
            go_wp2_with fail
            generalize w5.alloc (.cells #[.int .i64 a1, .int .i64 a2, .int .i64 a3, .int .i64 a4] 39) = wd at *
            generalize w5.heap.size = x5 at *
            have HFD := Lib.hid (HF4.out.below HBA5.out)
            have R2 := Lib.hid (read_any HFD.out.at_ HFD.out.good.1 s HS.out 0 4096 (by decide) (by decide))
            rw [HP3.out] at R2
            dsimp only at R2
            refine R2.out.mono ?_
            rintro e w6 ⟨vd, rfl, hod, hb6⟩
            have HB6 := Lib.hid (below_call HBA5.out hb6 (Nat.le_refl _))
            have o1 := (HB6.out.block _ (blk_lt HOX1d.out)).trans HOX1d.out
            have o2 := (HB6.out.block _ (blk_lt HOX2d.out)).trans HOX2d.out
            have o5 := (hb6.block _ (blk_lt HOX5.out)).trans HOX5.out
            have n0 := cell_blk_some o1 (i := 0) rfl
            have n1 := cell_blk_some o1 (i := 1) rfl
            have n2 := cell_blk_some o1 (i := 2) rfl
            have n3 := cell_blk_some o1 (i := 3) rfl
            have m0 := cell_blk_some o5 (i := 0) rfl
            have m1 := cell_blk_some o5 (i := 1) rfl
            have m2 := cell_blk_some o5 (i := 2) rfl
            have m3 := cell_blk_some o5 (i := 3) rfl
            have hcb := SrcG.str (HSB4.out.below HB6.out)
            have hcd := SrcG.str (SrcG.of_own hod (u8s_one bl))
            obtain ⟨ve, vf, rfl⟩ := own_shape hod
            have O1 := Lib.hid o1; have O2 := Lib.hid o2
            clear o1 o2 o5 hod hb6 R2 HOX1d HOX2d HOX5
            go_wp2_with fail
            have S4 := Lib.hid ((HF4.out.below HB6.out).at0.stat old HO.out)
            have hp4 := HP4.out
            generalize statN M' old = D at S4 hp4
            obtain ⟨⟨d1, d2, d3, d4⟩, d5⟩ := D
            unfold statV statA at S4
            dsimp only at S4 hp4
            clear HP4
            refine S4.out.mono ?_
            rintro e w7 ⟨rfl, hb7⟩
            have hba7 : Below w6.heap.size w6 (w7.alloc (.cells #[.int .i64 d1, .int .i64 d2, .int .i64 d3, .int .i64 d4] 39)) := below_call hb7 ((Below.refl w7.heap.size w7).alloc (Nat.le_refl _) _) (Nat.le_refl _)
            have u1 := (hba7.block _ (blk_lt O1.out)).trans O1.out
            have u2 := (hba7.block _ (blk_lt O2.out)).trans O2.out
            have y0 := cell_blk_some u1 (i := 0) rfl
            have z0 := cell_blk_some u2 (i := 0) rfl
            have HEND := Lib.hid (below_call (below_call HF4.out.bel HB6.out (Nat.le_refl _)) hba7 (Nat.le_refl _))
            clear hb7 hba7 u1 u2 S4 n0 n1 n2 n3 m0 m1 m2 m3 hcb hcd
            rcases hp4 with ⟨p1, p2, p3⟩ | ⟨p1 | ⟨p1, p2⟩, p3⟩
            · subst p1 p2 p3
              go_wp2_with fail
              go_ret
              exact ⟨rfl, HEND.out⟩
            · have k1 : (e5 == 0) = false := by simp [p1]
              have k2 : (d5 != 0) = true := by simp [p3]
              clear p1 p3
              go_wp2_with fail
              go_ret
              exact ⟨rfl, HEND.out⟩
            · have k1 : (e1 == a1) = false := by simp [p2]
              have k2 : (d5 != 0) = true := by simp [p3]
              subst p1
              clear p2 p3
              go_wp2_with fail
              go_ret
              exact ⟨rfl, HEND.out⟩
          · have hzc : ((renameN M old s).1 != 0) = true := by simp [hz]
            generalize (renameN M old s).1 = rc at *
            clear hz hl4 RN
            go_wp2_with fail
            go_ret
            exact ⟨rfl, HF4.out.bel⟩
end Go.Proofs.Ytoofcnehoffllaa
