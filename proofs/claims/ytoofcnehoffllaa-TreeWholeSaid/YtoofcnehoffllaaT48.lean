/- What an argument of the type []marlref14.Op is. -/
/- A call of a script: Fits and Do (printed by tools/gen48.py). -/
import Derived.Test.YtoofcnehoffllaaArgsI
import Derived.Test.YtoofcnehoffllaaT41
import Derived.Deep.Slices
import Derived.Test.YtoofcnehoffllaaT47
namespace Go.Proofs.Ytoofcnehoffllaa
open Go.RowKit Go.ChangeShapes Go.WideShapes Go.ChangeAt Go.Deep

/-- A script's call. -/
structure TOp where
  kind : Int
  path : ByteArray
  old : ByteArray
  at_ : Int
  data : List Int
/-- A script's call in memory: five cells; its data lie in W. -/
structure TOpAt (W w : World) (g o : Nat) (x : TOp × Value) : Prop where
  c0 : w.cell? ⟨g, o, none⟩ = some (.int .i64 x.1.kind)
  c1 : w.cell? ⟨g, o + 1, none⟩ = some (.string x.1.path)
  c2 : w.cell? ⟨g, o + 2, none⟩ = some (.string x.1.old)
  c3 : w.cell? ⟨g, o + 3, none⟩ = some (.int .i64 x.1.at_)
  c4 : w.cell? ⟨g, o + 4, none⟩ = some x.2
  rng : (-9223372036854775808 ≤ x.1.kind ∧ x.1.kind ≤ 9223372036854775807) ∧ -9223372036854775808 ≤ x.1.at_ ∧ x.1.at_ ≤ 9223372036854775807
  dat : ArgB W x.2 x.1.data
  byt : ∀ y ∈ x.1.data, 0 ≤ y ∧ y < 256
def TOpsAt (W : World) (v : Value) (ops : List (TOp × Value)) : Prop :=
  ∃ a c, v = .slice a ops.length c ∧ (0 < ops.length → ∃ g o, a = some ⟨g, o, none⟩ ∧ g < W.heap.size ∧ ∀ i x, ops[i]? = some x → TOpAt W W g (o + i * 5) x)
theorem TOpAt.below {W w : World} {g o : Nat} {x : TOp × Value} (h : TOpAt W W g o x) (hg : g < W.heap.size) (hb : Below W.heap.size W w) : TOpAt W w g o x :=
  have e := hb.block g hg
  ⟨(World.cell?_of_block (w := W) (a := ⟨g, o, none⟩) e).trans h.c0, (World.cell?_of_block (w := W) (a := ⟨g, o + 1, none⟩) e).trans h.c1, (World.cell?_of_block (w := W) (a := ⟨g, o + 2, none⟩) e).trans h.c2,
   (World.cell?_of_block (w := W) (a := ⟨g, o + 3, none⟩) e).trans h.c3, (World.cell?_of_block (w := W) (a := ⟨g, o + 4, none⟩) e).trans h.c4, h.rng, h.dat, h.byt⟩

section
variable {H : Type} {enc : TypeId × Value → H} {W : World}
theorem byt_trod {n : Nat} {v : Value} {y : DataW H × List MemPlace} (h : DataW.trod enc Try.prog W 0 (fun _ => true) true n 29 [v] = some y) : ∃ ys, ArgB W v ys ∧ ∀ y ∈ ys, 0 ≤ y ∧ y < 256 := by
  rcases open_ints Try.underlying29 Try.underlying5 (by kernel_rfl) h with ⟨hcs, _⟩ | ⟨a, len, cap, zs, hcs, _, hl, _, hz, _, hcell, hwz⟩
  · obtain ⟨rfl, _⟩ := List.cons.inj hcs
    exact ⟨[], ⟨none, 0, rfl, Nat.le_refl _, fun h => by simp at h⟩, fun y hy => by cases hy⟩
  · obtain ⟨rfl, _⟩ := List.cons.inj hcs
    simp only [if_true] at hz
    have hlen : (zs.take len).length = len := by rw [List.length_take]; omega
    refine ⟨zs.take len, ⟨some a, cap, by rw [hlen], by omega, fun h0 => ?_⟩, fun y hy => ?_⟩
    · obtain ⟨g, o, rfl, hg⟩ := addr_of_cell (hcell 0 (by omega))
      refine ⟨g, o, rfl, hg, fun j x hx => ?_⟩
      rw [List.getElem?_take] at hx
      split at hx
      · have hj : j < zs.length := (List.getElem?_eq_some_iff.1 hx).1
        have hadd : (⟨g, o, none⟩ : Addr).add j = ⟨g, o + j, none⟩ := by unfold Addr.add; split <;> simp_all
        have := hcell j hj
        rw [hadd] at this
        rw [this, List.getD_eq_getElem?_getD, hx]; rfl
      · cases hx
    · have := hwz y (List.mem_of_mem_take hy)
      simp [Lit.wf, IntKind.min, IntKind.max, IntKind.signed, IntKind.bits] at this
      omega
theorem i64_wf {z : Int} (h : (Lit.int .i64 z).wf = true) : -9223372036854775808 ≤ z ∧ z ≤ 9223372036854775807 := by
  simp [Lit.wf, IntKind.min, IntKind.max, IntKind.signed, IntKind.bits] at h
  omega
set_option maxRecDepth 100000 in
theorem top_trod {n : Nat} {cs : List Value} {y : DataW H × List MemPlace} (h : DataW.trod enc Try.prog W 0 (fun _ => true) true n 54 cs = some y) :
    ∃ x : TOp × Value, cs = [.int .i64 x.1.kind, .string x.1.path, .string x.1.old, .int .i64 x.1.at_, x.2] ∧ ((-9223372036854775808 ≤ x.1.kind ∧ x.1.kind ≤ 9223372036854775807) ∧ -9223372036854775808 ≤ x.1.at_ ∧ x.1.at_ ≤ 9223372036854775807) ∧ ArgB W x.2 x.1.data ∧ ∀ y ∈ x.1.data, 0 ≤ y ∧ y < 256 := by
  obtain ⟨xs, k, _, _, hlen, hxl, hf⟩ := DataW.trod_struct Try.underlying54 h
  rw [show Program.cellsOf Try.prog 54 = 5 by kernel_rfl] at hlen
  match cs, hlen with
  | [v0, v1, v2, v3, v4], _ =>
    have hgo : ∀ i, i < 5 → ∃ y, xs[i]? = some y := fun i hi => ⟨_, List.getElem?_eq_getElem (by rw [hxl]; exact hi)⟩
    obtain ⟨y0, e0⟩ := hgo 0 (by omega)
    obtain ⟨y1, e1⟩ := hgo 1 (by omega)
    obtain ⟨y2, e2⟩ := hgo 2 (by omega)
    obtain ⟨y3, e3⟩ := hgo 3 (by omega)
    obtain ⟨y4, e4⟩ := hgo 4 (by omega)
    have g0 : DataW.trod enc Try.prog W 0 (fun _ => true) true k 3 (List.take (Program.cellsOf Try.prog 3) (List.drop 0 [v0, v1, v2, v3, v4])) = some y0 := (hf 0 _ rfl).trans e0
    have g1 : DataW.trod enc Try.prog W 0 (fun _ => true) true k 9 (List.take (Program.cellsOf Try.prog 9) (List.drop 1 [v0, v1, v2, v3, v4])) = some y1 := (hf 1 _ rfl).trans e1
    have g2 : DataW.trod enc Try.prog W 0 (fun _ => true) true k 9 (List.take (Program.cellsOf Try.prog 9) (List.drop 2 [v0, v1, v2, v3, v4])) = some y2 := (hf 2 _ rfl).trans e2
    have g3 : DataW.trod enc Try.prog W 0 (fun _ => true) true k 3 (List.take (Program.cellsOf Try.prog 3) (List.drop 3 [v0, v1, v2, v3, v4])) = some y3 := (hf 3 _ rfl).trans e3
    have g4 : DataW.trod enc Try.prog W 0 (fun _ => true) true k 29 (List.take (Program.cellsOf Try.prog 29) (List.drop 4 [v0, v1, v2, v3, v4])) = some y4 := (hf 4 _ rfl).trans e4
    have ci : Program.cellsOf Try.prog 3 = 1 := by kernel_rfl
    have cq : Program.cellsOf Try.prog 9 = 1 := by kernel_rfl
    have cd : Program.cellsOf Try.prog 29 = 1 := by kernel_rfl
    rw [ci] at g0 g3
    rw [cq] at g1 g2
    rw [cd] at g4
    obtain ⟨z0, h0, _, w0⟩ := DataW.trod_int Try.underlying3 g0
    obtain ⟨s1, h1, _⟩ := DataW.trod_string Try.underlying9 g1
    obtain ⟨s2, h2, _⟩ := DataW.trod_string Try.underlying9 g2
    obtain ⟨z3, h3, _, w3⟩ := DataW.trod_int Try.underlying3 g3
    obtain ⟨ys, hys, hyb⟩ := byt_trod (v := v4) g4
    have r0 : v0 = .int .i64 z0 := (List.cons.inj h0).1
    have r1 : v1 = .string s1 := (List.cons.inj h1).1
    have r2 : v2 = .string s2 := (List.cons.inj h2).1
    have r3 : v3 = .int .i64 z3 := (List.cons.inj h3).1
    subst r0 r1 r2 r3
    exact ⟨(⟨z0, s1, s2, z3, ys⟩, v4), rfl, ⟨i64_wf w0, i64_wf w3⟩, hys, hyb⟩
set_option maxRecDepth 100000 in
theorem arg_tops {base : Nat} {v : Value} {d : DataW H} {p : List MemPlace} (hval : Value.okWide Try.prog W .any base 51 v)
    (h : DataW.Trod enc Try.prog W 0 (fun _ => true) true 51 v d p) : ∃ ops, TOpsAt W v ops := by
  obtain ⟨a1, len, cap, rfl⟩ := okWide_slice Try.underlying51 hval
  obtain ⟨fuel, hf⟩ := h
  rcases open_slice Try.underlying51 hf with ⟨hcs, _⟩ | ⟨a, len', cap', mm, n, D, Pl, hcs, _, hl, _, hmm, _, hx⟩
  · simp [Value.cells] at hcs
    obtain ⟨rfl, rfl, rfl⟩ := hcs
    exact ⟨[], none, 0, rfl, fun h => by simp at h⟩
  · simp [Value.cells] at hcs
    obtain ⟨rfl, rfl, rfl⟩ := hcs
    simp only [if_true] at hmm
    rw [show Program.cellsOf Try.prog 54 = 5 by kernel_rfl] at hx
    have each : ∀ i, i < len → ∃ x : TOp × Value, (∀ j, j < 5 → W.cell? (a.add (i * 5 + j)) = ([.int .i64 x.1.kind, .string x.1.path, .string x.1.old, .int .i64 x.1.at_, x.2] : List Value)[j]?) ∧ ((-9223372036854775808 ≤ x.1.kind ∧ x.1.kind ≤ 9223372036854775807) ∧ -9223372036854775808 ≤ x.1.at_ ∧ x.1.at_ ≤ 9223372036854775807) ∧ ArgB W x.2 x.1.data ∧ ∀ y ∈ x.1.data, 0 ≤ y ∧ y < 256 := fun i hi => by
      obtain ⟨cs, h1, h2⟩ := hx i (by omega)
      obtain ⟨x, rfl, hr, ha, hb⟩ := top_trod h2
      obtain ⟨_, _, hc⟩ := World.cells?_some h1
      refine ⟨x, fun j hj => ?_, hr, ha, hb⟩
      have := hc j hj
      rwa [add_add] at this
    by_cases h0 : len = 0
    · subst h0
      exact ⟨[], some a, cap, rfl, fun h => by simp at h⟩
    · obtain ⟨x0, hx0, _⟩ := each 0 (by omega)
      have hc0 := hx0 0 (by omega)
      obtain ⟨g, o, rfl, hg⟩ := addr_of_cell hc0
      have hadd : ∀ j, (⟨g, o, none⟩ : Addr).add j = ⟨g, o + j, none⟩ := fun j => by unfold Addr.add; split <;> simp_all
      have hall : ∃ ops : List (TOp × Value), ops.length = len ∧ ∀ i x, ops[i]? = some x → TOpAt W W g (o + i * 5) x := by
        clear hx0 hc0 h0 hx hf hval
        have hn : ∀ n, n ≤ len → ∃ ops : List (TOp × Value), ops.length = n ∧ ∀ i x, ops[i]? = some x → TOpAt W W g (o + i * 5) x := by
          intro n
          induction n with
          | zero => exact fun _ => ⟨[], rfl, fun i x hx => by simp at hx⟩
          | succ n ih =>
            intro hn
            obtain ⟨ops, h1, h2⟩ := ih (by omega)
            obtain ⟨x, hx, hr, ha, hb⟩ := each n (by omega)
            refine ⟨ops ++ [x], by simp [h1], fun i y hy => ?_⟩
            by_cases hi : i < n
            · rw [List.getElem?_append_left (by omega)] at hy
              exact h2 i y hy
            · have hil := (List.getElem?_eq_some_iff.1 hy).1
              rw [List.length_append, List.length_singleton] at hil
              obtain rfl : i = n := by omega
              rw [List.getElem?_append_right (by omega), h1, Nat.sub_self] at hy
              obtain rfl : x = y := by simpa using hy
              have hh : ∀ j, j < 5 → W.cell? ⟨g, o + (i * 5 + j), none⟩ = ([.int .i64 x.1.kind, .string x.1.path, .string x.1.old, .int .i64 x.1.at_, x.2] : List Value)[j]? := fun j hj => by rw [← hadd]; exact hx j hj
              refine ⟨?_, ?_, ?_, ?_, ?_, hr, ha, hb⟩
              · exact hh 0 (by omega)
              · rw [Nat.add_assoc]; exact hh 1 (by omega)
              · rw [Nat.add_assoc]; exact hh 2 (by omega)
              · rw [Nat.add_assoc]; exact hh 3 (by omega)
              · rw [Nat.add_assoc]; exact hh 4 (by omega)
        exact hn len (Nat.le_refl _)
      obtain ⟨ops, h1, h2⟩ := hall
      exact ⟨ops, _, cap, by rw [h1], fun _ => ⟨g, o, rfl, hg, h2⟩⟩
end
end Go.Proofs.Ytoofcnehoffllaa

namespace Go.Proofs.Ytoofcnehoffllaa
open Go.RowKit

/-- What a script's call answers, and what the tree is then. -/
noncomputable def doN (M : TM) (cap : Nat) (o : TOp) : Int × Int × TM :=
  if o.kind = 1 then makeN M cap o.path false else if o.kind = 2 then makeN M cap o.path true else if o.kind = 3 then (0, linkN M o.old o.path) else if o.kind = 4 then (0, goneN M o.path false) else if o.kind = 5 then (0, goneN M o.path true) else
  if o.kind = 6 then (0, renameN M o.old o.path) else if o.kind = 7 then (0, writeN M o.path o.at_ o.data) else if o.kind = 8 then (0, truncN M o.path o.at_) else (0, 0, M)
def opT (x : TOp × Value) : Value := .agg #[.int .i64 x.1.kind, .string x.1.path, .string x.1.old, .int .i64 x.1.at_, x.2]
def fitsN (o : TOp) : Bool := decide (o.path.size ≤ 300) && decide (o.old.size ≤ 300) && decide (o.data.length ≤ 4200)
/-- The row's block, all of bytes; or the row is empty. -/
def ByteRow (w : World) (g n : Nat) (a : Option Addr) : Prop := n = 0 ∨ (a = some ⟨g, 0, none⟩ ∧ ∃ cur, w.heap[g]? = some (.cells cur 5 (0, 0)) ∧ ∀ j, j < n → ∃ z, cur[j]? = some (.int .u8 z))
theorem byteRow_own {w0 w : World} {B n c : Nat} {a : Option Addr} {l : List Value} (h : w.ownsRow B 5 1 (.slice a n c) n l) (hl : ∀ u ∈ l, ∃ z, u = .int .u8 z) (h0 : w0.heap.size ≤ B) (hlt : w0.heap.size < w.heap.size) :
    ∃ g, w0.heap.size ≤ g ∧ g < w.heap.size ∧ ByteRow w g n a := by
  rcases h.2 with ⟨_, hn⟩ | ⟨g, cap, cur, he, hb, hg, hc, _, hs, ht⟩
  · exact ⟨w0.heap.size, Nat.le_refl _, hlt, .inl hn⟩
  · obtain ⟨h1, -, -⟩ := Value.slice.inj he
    refine ⟨g, by omega, blk_lt hg, .inr ⟨h1, cur, hg, fun j hj => ?_⟩⟩
    have hln := h.1
    obtain ⟨u, hu⟩ : ∃ u, l[j]? = some u := ⟨_, List.getElem?_eq_getElem (by omega)⟩
    obtain ⟨z, rfl⟩ := hl u (List.mem_of_getElem? hu)
    rw [← ht, List.getElem?_take, if_pos (by omega), Array.getElem?_toList] at hu
    exact ⟨z, hu⟩
theorem ArgB.src {W w : World} {v : Value} {ys : List Int} (h : ArgB W v ys) (hb : Below W.heap.size W w) : SrcG 1 w v ys.length (u8s ys) := by
  obtain ⟨a, c, rfl, hc, hh⟩ := h
  refine ⟨a, c, rfl, by rw [u8s_length]; omega, u8s_one ys, fun h0 => ?_⟩
  obtain ⟨g, o, rfl, hg, hcell⟩ := hh h0
  refine ⟨_, rfl, fun j u hu => ?_⟩
  unfold u8s at hu
  rw [List.getElem?_map] at hu
  cases hz : ys[j]? with
  | none => rw [hz] at hu; cases hu
  | some z =>
    rw [hz] at hu
    injection hu with hu
    rw [Addr.add_lit, ← hu]
    exact (cell_below hb hg).trans (hcell j z hz)
section
variable {w0 w w' : World} {tb nb cap : Nat} {P E : Nat → Option Nat} {V : Nat → Value} {M M' : TM} {F : Nat → Prop}
theorem LAt.rename (h : LAt w0 w tb cap M) (old s : ByteArray) (ho : old.size ≤ 1000000) (hs : s.size ≤ 1000000) :
    Calls Try.prog 25 #[.pointer (some ⟨tb, 0, none⟩), .string old, .string s] w fun e w' => e = .returned (.int .i64 (renameN M old s).1) ∧ LAt w0 w' tb cap (renameN M old s).2 :=
  (rename_any h.at_ h.good old s ho hs).mono fun _ _ ⟨a, b⟩ => ⟨a, h.left b (h.good.rename old s)⟩
set_option maxHeartbeats 1000000 in
set_option maxRecDepth 100000 in
theorem fits_any (x : TOp × Value) (hv : ∃ a c, x.2 = .slice a x.1.data.length c) (w : World) :
    Calls Try.prog 23 #[opT x] w fun e w' => e = .returned (.bool (fitsN x.1)) ∧ Below w.heap.size w w' := by
  obtain ⟨⟨kind, path, old, at_, data⟩, v⟩ := x
  obtain ⟨a, c, hv⟩ := hv
  have hv : v = .slice a data.length c := hv
  subst hv
  have HB : Hid (Below w.heap.size w (w.alloc (.cells #[.int .i64 kind, .string path, .string old, .int .i64 at_, .slice a data.length c] 54))) := Lib.hid ((Below.refl _ w).alloc (Nat.le_refl _) _)
  unfold opT fitsN
  by_cases h1 : path.size ≤ 300
  · have q1 : decide ((path.size : Int) ≤ 300) = true := decide_eq_true (by omega)
    by_cases h2 : old.size ≤ 300
    · have q2 : decide ((old.size : Int) ≤ 300) = true := decide_eq_true (by omega)
      by_cases h3 : data.length ≤ 4200
      · have q3 : decide ((data.length : Int) ≤ 4200) = true := decide_eq_true (by omega)
        have HR : Hid ((decide (path.size ≤ 300) && decide (old.size ≤ 300) && decide (data.length ≤ 4200)) = true) := Lib.hid (by rw [decide_eq_true h1, decide_eq_true h2, decide_eq_true h3]; rfl)
        clear h1 h2 h3
        go_enter Try.func23, Try.ntmps23
        go_wp2_with fail
        go_ret
        rw [HR.out]
        exact ⟨rfl, HB.out⟩
      · have q3 : decide ((data.length : Int) ≤ 4200) = false := decide_eq_false (by omega)
        have HR : Hid ((decide (path.size ≤ 300) && decide (old.size ≤ 300) && decide (data.length ≤ 4200)) = false) := Lib.hid (by rw [decide_eq_false h3, Bool.and_false])
        clear h1 h2 h3
        go_enter Try.func23, Try.ntmps23
        go_wp2_with fail
        go_ret
        rw [HR.out]
        exact ⟨rfl, HB.out⟩
    · have q2 : decide ((old.size : Int) ≤ 300) = false := decide_eq_false (by omega)
      have HR : Hid ((decide (path.size ≤ 300) && decide (old.size ≤ 300) && decide (data.length ≤ 4200)) = false) := Lib.hid (by rw [decide_eq_false h2, Bool.and_false, Bool.false_and])
      clear h1 h2
      go_enter Try.func23, Try.ntmps23
      go_wp2_with fail
      go_ret
      rw [HR.out]
      exact ⟨rfl, HB.out⟩
  · have q1 : decide ((path.size : Int) ≤ 300) = false := decide_eq_false (by omega)
    have HR : Hid ((decide (path.size ≤ 300) && decide (old.size ≤ 300) && decide (data.length ≤ 4200)) = false) := Lib.hid (by rw [decide_eq_false h1, Bool.false_and, Bool.false_and])
    clear h1
    go_enter Try.func23, Try.ntmps23
    go_wp2_with fail
    go_ret
    rw [HR.out]
    exact ⟨rfl, HB.out⟩
set_option maxHeartbeats 4000000 in
set_option maxRecDepth 100000 in
theorem do_any (h : LAt w0 w tb cap M) (x : TOp × Value) (hp : x.1.path.size ≤ 1000000) (ho : x.1.old.size ≤ 1000000) (hl : x.1.data.length ≤ 1000000) (hr : -9223372036854775808 ≤ x.1.at_ ∧ x.1.at_ ≤ 9223372036854775807)
    (hsrc : SrcG 1 w x.2 x.1.data.length (u8s x.1.data)) (hb : ∀ y ∈ x.1.data, 0 ≤ y ∧ y < 256) :
    Calls Try.prog 24 #[.iface 25 (.pointer (some ⟨tb, 0, none⟩)), opT x] w fun e w' => e = .returned (.tuple #[.int .i64 (doN M cap x.1).1, .int .i64 (doN M cap x.1).2.1]) ∧ LAt w0 w' tb cap (doN M cap x.1).2.2 := by
  obtain ⟨⟨kind, path, old, at_, data⟩, v⟩ := x
  unfold opT
  dsimp only at hp ho hl hr hsrc hb ⊢
  have hbw : Below w.heap.size w (w.alloc (.cells #[.int .i64 kind, .string path, .string old, .int .i64 at_, v] 54)) := (Below.refl _ w).alloc (Nat.le_refl _) _
  have hB := h.below hbw

  by_cases h1 : kind = 1
  · subst h1
    have HC := Lib.hid (hB.create path hp)
    have HRES : Hid (doN M cap ⟨1, path, old, at_, data⟩ = makeN M cap path false) := Lib.hid (by unfold doN; dsimp only; rw [if_pos rfl])
    generalize makeN M cap path false = r at *
    clear h hp ho hl hsrc hb hr hbw hB
    go_enter Try.func24, Try.ntmps24
    go_wp2_with fail
    refine HC.out.mono ?_
    rintro e w1 ⟨rfl, hl1⟩
    have HL := Lib.hid hl1
    clear hl1 HC
    go_wp2_with fail
    go_ret2
    rw [HRES.out]
    exact ⟨rfl, HL.out⟩
  by_cases h2 : kind = 2
  · subst h2
    have HC := Lib.hid (hB.mkdir path hp)
    have HRES : Hid (doN M cap ⟨2, path, old, at_, data⟩ = makeN M cap path true) := Lib.hid (by unfold doN; dsimp only; rw [if_neg (by decide)]; rw [if_pos rfl])
    generalize makeN M cap path true = r at *
    clear h hp ho hl hsrc hb hr hbw hB
    go_enter Try.func24, Try.ntmps24
    go_wp2_with fail
    refine HC.out.mono ?_
    rintro e w1 ⟨rfl, hl1⟩
    have HL := Lib.hid hl1
    clear hl1 HC
    go_wp2_with fail
    go_ret2
    rw [HRES.out]
    exact ⟨rfl, HL.out⟩
  by_cases h3 : kind = 3
  · subst h3
    have HC := Lib.hid (hB.link old path ho hp)
    have HRES : Hid (doN M cap ⟨3, path, old, at_, data⟩ = (0, linkN M old path)) := Lib.hid (by unfold doN; dsimp only; rw [if_neg (by decide)]; rw [if_neg (by decide)]; rw [if_pos rfl])
    generalize linkN M old path = r at *
    clear h hp ho hl hsrc hb hr hbw hB
    go_enter Try.func24, Try.ntmps24
    go_wp2_with fail
    refine HC.out.mono ?_
    rintro e w1 ⟨rfl, hl1⟩
    have HL := Lib.hid hl1
    clear hl1 HC
    go_wp2_with fail
    go_ret2
    rw [HRES.out]
    exact ⟨rfl, HL.out⟩
  by_cases h4 : kind = 4
  · subst h4
    have HC := Lib.hid (hB.unlink path hp)
    have HRES : Hid (doN M cap ⟨4, path, old, at_, data⟩ = (0, goneN M path false)) := Lib.hid (by unfold doN; dsimp only; rw [if_neg (by decide)]; rw [if_neg (by decide)]; rw [if_neg (by decide)]; rw [if_pos rfl])
    generalize goneN M path false = r at *
    clear h hp ho hl hsrc hb hr hbw hB
    go_enter Try.func24, Try.ntmps24
    go_wp2_with fail
    refine HC.out.mono ?_
    rintro e w1 ⟨rfl, hl1⟩
    have HL := Lib.hid hl1
    clear hl1 HC
    go_wp2_with fail
    go_ret2
    rw [HRES.out]
    exact ⟨rfl, HL.out⟩
  by_cases h5 : kind = 5
  · subst h5
    have HC := Lib.hid (hB.rmdir path hp)
    have HRES : Hid (doN M cap ⟨5, path, old, at_, data⟩ = (0, goneN M path true)) := Lib.hid (by unfold doN; dsimp only; rw [if_neg (by decide)]; rw [if_neg (by decide)]; rw [if_neg (by decide)]; rw [if_neg (by decide)]; rw [if_pos rfl])
    generalize goneN M path true = r at *
    clear h hp ho hl hsrc hb hr hbw hB
    go_enter Try.func24, Try.ntmps24
    go_wp2_with fail
    refine HC.out.mono ?_
    rintro e w1 ⟨rfl, hl1⟩
    have HL := Lib.hid hl1
    clear hl1 HC
    go_wp2_with fail
    go_ret2
    rw [HRES.out]
    exact ⟨rfl, HL.out⟩
  by_cases h6 : kind = 6
  · subst h6
    have HC := Lib.hid (hB.rename old path ho hp)
    have HRES : Hid (doN M cap ⟨6, path, old, at_, data⟩ = (0, renameN M old path)) := Lib.hid (by unfold doN; dsimp only; rw [if_neg (by decide)]; rw [if_neg (by decide)]; rw [if_neg (by decide)]; rw [if_neg (by decide)]; rw [if_neg (by decide)]; rw [if_pos rfl])
    generalize renameN M old path = r at *
    clear h hp ho hl hsrc hb hr hbw hB
    go_enter Try.func24, Try.ntmps24
    go_wp2_with fail
    refine HC.out.mono ?_
    rintro e w1 ⟨rfl, hl1⟩
    have HL := Lib.hid hl1
    clear hl1 HC
    go_wp2_with fail
    go_ret2
    rw [HRES.out]
    exact ⟨rfl, HL.out⟩
  by_cases h7 : kind = 7
  · subst h7
    have HRES : Hid (doN M cap ⟨7, path, old, at_, data⟩ = (0, writeN M path at_ data)) := Lib.hid (by unfold doN; dsimp only; rw [if_neg (by decide)]; rw [if_neg (by decide)]; rw [if_neg (by decide)]; rw [if_neg (by decide)]; rw [if_neg (by decide)]; rw [if_neg (by decide)]; rw [if_pos rfl])
    obtain ⟨va0, vc0, hv0, -⟩ := id hsrc
    subst hv0
    obtain ⟨F0, hF0⟩ := hB.ft
    have hbx : (w.alloc (.cells #[.int .i64 7, .string path, .string old, .int .i64 at_, .slice va0 data.length vc0] 54)).heap[w.heap.size]? = some (.cells #[.int .i64 7, .string path, .string old, .int .i64 at_, .slice va0 data.length vc0] 54 (0, 0)) := blk_new rfl
    have HF0 := Lib.hid hF0; have HBX := Lib.hid hbx; have HP := Lib.hid hp; have HLEN := Lib.hid hl; have HR := Lib.hid hr; have HBY := Lib.hid hb
    have HSRC := Lib.hid ((hsrc.below hbw).below ((Below.refl (w.alloc (.cells #[.int .i64 7, .string path, .string old, .int .i64 at_, .slice va0 data.length vc0] 54)).heap.size (w.alloc (.cells #[.int .i64 7, .string path, .string old, .int .i64 at_, .slice va0 data.length vc0] 54))).alloc (Nat.le_refl _) (.cells #[] 5)))
    have OW : Hid (((w.alloc (.cells #[.int .i64 7, .string path, .string old, .int .i64 at_, .slice va0 data.length vc0] 54)).alloc (.cells #[] 5)).ownsRow (w.alloc (.cells #[.int .i64 7, .string path, .string old, .int .i64 at_, .slice va0 data.length vc0] 54)).heap.size 5 1 (.slice (some ⟨(w.alloc (.cells #[.int .i64 7, .string path, .string old, .int .i64 at_, .slice va0 data.length vc0] 54)).heap.size, 0, none⟩) 0 0) 0 []) := Lib.hid ⟨rfl, .inr ⟨(w.alloc (.cells #[.int .i64 7, .string path, .string old, .int .i64 at_, .slice va0 data.length vc0] 54)).heap.size, 0, #[], rfl, Nat.le_refl _, blk_new rfl, Nat.le_refl _, by decide, rfl, rfl⟩⟩
    have hzz : (w.alloc (.cells #[.int .i64 7, .string path, .string old, .int .i64 at_, .slice va0 data.length vc0] 54)).heap.size ≤ ((w.alloc (.cells #[.int .i64 7, .string path, .string old, .int .i64 at_, .slice va0 data.length vc0] 54)).alloc (.cells #[] 5)).heap.size := by simp
    have hs1 : (w.alloc (.cells #[.int .i64 7, .string path, .string old, .int .i64 at_, .slice va0 data.length vc0] 54)).heap.size = w.heap.size + 1 := by simp
    have HS1 := Lib.hid hs1
    have ow1 := OW.out
    rw [hs1] at ow1
    have OW1 : Hid (((w.alloc (.cells #[.int .i64 7, .string path, .string old, .int .i64 at_, .slice va0 data.length vc0] 54)).alloc (.cells #[] 5)).ownsRow (w.heap.size + 1) 5 1 (.slice (some ⟨w.heap.size + 1, 0, none⟩) 0 0) 0 []) := Lib.hid ow1
    have hz1 : w.heap.size + 1 ≤ ((w.alloc (.cells #[.int .i64 7, .string path, .string old, .int .i64 at_, .slice va0 data.length vc0] 54)).alloc (.cells #[] 5)).heap.size := by simp
    clear hs1 ow1
    clear h hF0 hbx hp ho hl hsrc hb hr hbw hB
    go_enter Try.func24, Try.ntmps24
    go_wp2_with (refine wpList_append_g (by rfl) (.tmp 57) (.tmp 59) (by rfl) elByte (by rfl) OW1.out (by rfl) HSRC.out (by have := HLEN.out; unfold maxLen; omega) (by have := HLEN.out; omega) hz1 ?_)
    intro v2 w2 ho2 hf2 hv2
    rw [← HS1.out] at ho2 hf2
    clear OW1 hz1
    have hszb : w.heap.size < (w.alloc (.cells #[.int .i64 7, .string path, .string old, .int .i64 at_, .slice va0 data.length vc0] 54)).heap.size := by simp
    generalize (w.alloc (.cells #[.int .i64 7, .string path, .string old, .int .i64 at_, .slice va0 data.length vc0] 54)) = wb at *
    have hbe : Below wb.heap.size wb w2 := ((Below.refl wb.heap.size wb).alloc (Nat.le_refl _) (.cells #[] 5)).trans (hf2.toBelow hzz fun y hy => (OW.out.lt y hy).1)
    have ho2 : w2.ownsRow wb.heap.size 5 1 v2 data.length (u8s data) := ho2
    have HF2 := Lib.hid (HF0.out.below hbe)
    have hbx2 := (hbe.block _ (blk_lt HBX.out)).trans HBX.out
    have hnf : ∀ g, v2.ownBlock = some g → ¬ F0 g := fun g hg hF => by
      have := (ho2.lt g hg).1
      have := HF0.out.lt g hF
      omega
    obtain ⟨va, vc, rfl⟩ := own_shape ho2
    obtain ⟨g, hg0, hg1, hrow⟩ := byteRow_own (w0 := wb) ho2 (fun u hu => by
      unfold u8s at hu
      obtain ⟨z, _, rfl⟩ := List.mem_map.1 hu
      exact ⟨z, rfl⟩) (Nat.le_refl _) (by have := hbe.size; have := hf2.size; simp at this; omega)
    have hgF : ¬ F0 g := fun hF => by have := HF0.out.lt g hF; omega
    have hC := write_any HF2.out.at_ HF2.out.good.1 path HP.out at_ HR.out (SrcG.of_own ho2 (u8s_one data)) (fun h0 a c ad e1 e2 hF => by
      injection e1 with e1 _ _
      subst e1
      rcases hrow with q | ⟨q, _⟩
      · omega
      · rw [q] at e2
        injection e2 with e2
        rw [← e2] at hF
        exact hgF hF) HLEN.out
    have HC := Lib.hid hC; have HGF := Lib.hid hgF; have HROW := Lib.hid hrow; have HG1 := Lib.hid hg1; have HG0 := Lib.hid hg0
    have HGW : Hid (w0.heap.size ≤ g) := Lib.hid (Nat.le_trans HF0.out.bel.size hg0)
    have HGD := Lib.hid (HF2.out.good.write path at_ HBY.out)
    have c1 := cell_blk_some hbx2 (i := 1) rfl
    have c3 := cell_blk_some hbx2 (i := 3) rfl
    generalize writeN M path at_ data = r at *
    clear ho2 hf2 hv2 hbe hbx2 hnf hrow hgF hC hg1 hg0 OW HSRC hzz HBX HF0 hszb
    go_wp2_with fail
    refine HC.out.mono ?_
    rintro e w3 ⟨rfl, hl3⟩
    have hg3 := hl3.2.block g HG1.out HGF.out
    have HROW3 : Hid (ByteRow w3 g data.length va) := Lib.hid (HROW.out.imp id fun ⟨q1, cur, q2, q3⟩ => ⟨q1, cur, by rw [hg3]; exact q2, q3⟩)
    obtain ⟨F', hF', hn'⟩ := HF2.out.left hl3 HGD.out
    have HF3 := Lib.hid hF'; have HN3 : Hid (¬ F' g) := Lib.hid (hn' g HG1.out HGF.out)
    clear hl3 hg3 hF' hn' HC HROW c1 c3
    generalize data.length = n at *
    have hn6 : n ≤ 1000000 := HLEN.out
    go_wp2_with fail
    go_loopw [70] (fun i wr => ∃ k : Nat, k ≤ n ∧ i = .int .i64 k ∧ Fr (fun x => x = g) w3 wr ∧ ByteRow wr g n va) (fun i _ => n - (RowKit.intOf i).toNat)
    case atStart => exact ⟨0, Nat.zero_le _, rfl, Fr.refl _ _, HROW3.out⟩
    case round =>
      obtain ⟨k, hk, rfl, hfr, hrw⟩ := hrel
      have HFR := Lib.hid hfr
      clear hfr HROW3
      by_cases hlt : k < n
      · rcases hrw with h0 | ⟨rfl, cur, hbb, hz⟩
        · omega
        · obtain ⟨z, hz1⟩ := hz k hlt
          have c1 := cell_blk_some hbb hz1
          have f1 := free_blk (i := k) hbb
          have hnew := blk_set (i := k) hbb (.int .u8 (IntKind.u8.wrap (z + 1)))
          have hks : k < cur.size := (Array.getElem?_eq_some_iff.1 hz1).1
          have hz2 : ∀ j, j < n → ∃ z', (cur.setIfInBounds k (.int .u8 (IntKind.u8.wrap (z + 1))))[j]? = some (.int .u8 z') := fun j hj => by
            by_cases hkj : k = j
            · subst hkj
              exact ⟨_, by rw [Array.getElem?_setIfInBounds, if_pos rfl, if_pos hks]⟩
            · rw [Array.getElem?_setIfInBounds, if_neg hkj]
              exact hz j hj
          have m1 : (k : Int) < (n : Int) := by omega
          have m2 : (0 : Int) ≤ (k : Int) := by omega
          have HN := Lib.hid hnew; have HZ := Lib.hid hz2
          clear hbb hz hz1 hnew hz2 hks
          go_wp2_with fail
          go_roundw
          case rel => exact ⟨k + 1, by omega, by go_num, HFR.out.setCell ⟨g, k, none⟩ rfl _, .inr ⟨rfl, _, HN.out, HZ.out⟩⟩
          case measure => simp [RowKit.intOf]; omega
      · obtain rfl : k = n := by omega
        have HEND := Lib.hid (HF3.out.other HFR.out (fun b hb => by rw [hb]; exact HGW.out) (fun b hb e => HN3.out (by rw [← e]; exact hb))).at0
        clear hrw HFR
        go_wp2_with fail
        go_ret2
        rw [HRES.out]
        exact ⟨rfl, HEND.out⟩
  by_cases h8 : kind = 8
  · subst h8
    have HC := Lib.hid (hB.trunc path hp at_ hr)
    have HRES : Hid (doN M cap ⟨8, path, old, at_, data⟩ = (0, truncN M path at_)) := Lib.hid (by unfold doN; dsimp only; rw [if_neg (by decide)]; rw [if_neg (by decide)]; rw [if_neg (by decide)]; rw [if_neg (by decide)]; rw [if_neg (by decide)]; rw [if_neg (by decide)]; rw [if_neg (by decide)]; rw [if_pos rfl])
    generalize truncN M path at_ = r at *
    clear h hp ho hl hsrc hb hr hbw hB
    go_enter Try.func24, Try.ntmps24
    go_wp2_with fail
    refine HC.out.mono ?_
    rintro e w1 ⟨rfl, hl1⟩
    have HL := Lib.hid hl1
    clear hl1 HC
    go_wp2_with fail
    go_ret2
    rw [HRES.out]
    exact ⟨rfl, HL.out⟩
  have q1 : (kind == 1) = false := by simp [h1]
  have q2 : (kind == 2) = false := by simp [h2]
  have q3 : (kind == 3) = false := by simp [h3]
  have q4 : (kind == 4) = false := by simp [h4]
  have q5 : (kind == 5) = false := by simp [h5]
  have q6 : (kind == 6) = false := by simp [h6]
  have q7 : (kind == 7) = false := by simp [h7]
  have q8 : (kind == 8) = false := by simp [h8]
  have HRES : Hid (doN M cap ⟨kind, path, old, at_, data⟩ = (0, 0, M)) := Lib.hid (by
    unfold doN
    rw [if_neg h1, if_neg h2, if_neg h3, if_neg h4, if_neg h5, if_neg h6, if_neg h7, if_neg h8])
  have HL := Lib.hid hB
  clear h h1 h2 h3 h4 h5 h6 h7 h8 hp ho hl hsrc hb hr hbw hB
  go_enter Try.func24, Try.ntmps24
  go_wp2_with fail
  go_ret2
  rw [HRES.out]
  exact ⟨rfl, HL.out⟩
end
end Go.Proofs.Ytoofcnehoffllaa
