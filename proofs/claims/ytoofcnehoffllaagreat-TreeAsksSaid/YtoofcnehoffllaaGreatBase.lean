/- Small lemmas on worlds, rows and lists that all walks of this seat use: whatever the program. No condition. -/
import Derived.Test.YtoofcnehoffllaaGreatRows
import Derived.WalkKit
import Derived.WalkLawsBesides
import Derived.WalkSpells
import Derived.Lib.Hide
import Derived.Lib.SmallJoins
import Derived.StillTailTactics
import Derived.Deep.QuietTactic
import Derived.BigQuiet
import Derived.Deep.MidRow
import Derived.Laws.Tables
import Derived.Laws.CopyOwn
import Derived.Lib.EndianBits
namespace Go.Proofs.YtoofcnehoffllaaGreat
open Go.RowKit

/-! ### blocks -/
theorem cell_blk {w : World} {b i : Nat} {c : Array Value} {t : TypeId} {z : Nat × Nat} (h : w.heap[b]? = some (.cells c t z)) : w.cell? ⟨b, i, none⟩ = c[i]? := by
  simp [World.cell?, h]
theorem cell_blk_some {w : World} {b i : Nat} {c : Array Value} {t : TypeId} {z : Nat × Nat} {v : Value} (h : w.heap[b]? = some (.cells c t z)) (hv : c[i]? = some v) : w.cell? ⟨b, i, none⟩ = some v := by
  rw [cell_blk h, hv]
theorem free_blk {w : World} {b i : Nat} {c : Array Value} {t : TypeId} (h : w.heap[b]? = some (.cells c t (0, 0))) : w.frozen? ⟨b, i, none⟩ = false := by
  simp [World.frozen?, h]
theorem blk_set {w : World} {b i : Nat} {c : Array Value} {t : TypeId} {z : Nat × Nat} (h : w.heap[b]? = some (.cells c t z)) (v : Value) :
    (w.setCell ⟨b, i, none⟩ v).heap[b]? = some (.cells (c.setIfInBounds i v) t z) := by
  simp [World.setCell, Array.getElem?_modify, h]
theorem blk_set_other {w : World} {b : Nat} {a : Addr} {x : Obj} (h : w.heap[b]? = some x) (hb : b ≠ a.block) (v : Value) : (w.setCell a v).heap[b]? = some x := by
  simp only [World.setCell, Array.getElem?_modify]; rw [if_neg (by omega)]; exact h
theorem blk_new {w : World} {o : Obj} {n : Nat} (h : n = w.heap.size) : (w.alloc o).heap[n]? = some o := by
  subst h; show (w.heap.push _)[_]? = _; simp
theorem blk_lt {w : World} {o : Obj} {b : Nat} (h : w.heap[b]? = some o) : b < w.heap.size := (Array.getElem?_eq_some_iff.1 h).1
theorem blk_old {w : World} {o : Obj} {b : Nat} {x : Obj} (h : w.heap[b]? = some x) : (w.alloc o).heap[b]? = some x := by
  have hb := blk_lt h
  show (w.heap.push _)[_]? = _; rw [Array.getElem?_push, if_neg (by omega)]; exact h
theorem blk_below {B : Nat} {w w' : World} (h : Below B w w') {b : Nat} {x : Obj} (hb : b < B) (hx : w.heap[b]? = some x) : w'.heap[b]? = some x := by
  rw [h.block b hb]; exact hx
theorem size_set (w : World) (a : Addr) (v : Value) : (w.setCell a v).heap.size = w.heap.size := by simp [World.setCell]
theorem below_alloc {B : Nat} {a w : World} (h : Below B a w) (hB : B ≤ a.heap.size) (o : Obj) : Below B a (w.alloc o) := h.alloc (Nat.le_trans hB h.size) o
theorem below_call {B : Nat} {a w w' : World} (h : Below B a w) (h' : Below w.heap.size w w') (hB : B ≤ a.heap.size) : Below B a w' :=
  h.trans (h'.mono (Nat.le_trans hB h.size))
theorem below_drewN {B : Nat} {a w : World} (h : Below B a w) (n : Nat) : Below B a (w.drewN n) := ⟨h.os, h.tape, h.output, h.size, h.block⟩
/-- A row's cells, as the laws on append ask them. -/
theorem row_cells {w : World} {g : Nat} {c : Array Value} {t : TypeId} {z : Nat × Nat} (h : w.heap[g]? = some (.cells c t z)) {l : List Value} (hl : ∀ (j : Nat) (u : Value), l[j]? = some u → c[j]? = some u) :
    ∀ (j : Nat) (u : Value), l[j]? = some u → w.cell? ((⟨g, 0, none⟩ : Addr).add j) = some u := by
  intro j u hj
  have hadd : (⟨g, 0, none⟩ : Addr).add j = ⟨g, j, none⟩ := by unfold Addr.add; split <;> simp_all
  rw [hadd, cell_blk h]; exact hl j u hj
theorem own_below {B B' : Nat} {w w' : World} {e : TypeId} {sz n : Nat} {v : Value} {xs : List Value} (h : w.ownsRow B e sz v n xs) (hb : Below B' w w') (hv : ∀ k, v.ownBlock = some k → k < B') : w'.ownsRow B e sz v n xs := by
  refine ⟨h.1, ?_⟩
  rcases h.2 with hn | ⟨g, cap, cur, rfl, hb0, hgg, rest⟩
  · exact .inl hn
  · exact .inr ⟨g, cap, cur, rfl, hb0, by rw [hb.block g (hv g rfl)]; exact hgg, rest⟩
theorem own_call {B : Nat} {w w' : World} {e : TypeId} {sz n : Nat} {v : Value} {xs : List Value} (h : w.ownsRow B e sz v n xs) (hb : Below w.heap.size w w') : w'.ownsRow B e sz v n xs :=
  own_below h hb fun k hk => (h.lt k hk).2
theorem own_mono {B B' : Nat} {w : World} {e : TypeId} {sz n : Nat} {v : Value} {xs : List Value} (h : w.ownsRow B e sz v n xs) (hB : B' ≤ B) : w.ownsRow B' e sz v n xs := by
  refine ⟨h.1, ?_⟩
  rcases h.2 with hn | ⟨g, cap, cur, rfl, hb0, rest⟩
  · exact .inl hn
  · exact .inr ⟨g, cap, cur, rfl, Nat.le_trans hB hb0, rest⟩

/-! ### l's first m, and behind them what z has there -/
def fill (l z : List Value) (m : Nat) : List Value := l.take m ++ z.drop m
theorem fill_zero (l z : List Value) : fill l z 0 = z := by simp [fill]
theorem fill_all (l z : List Value) (h : l.length = z.length) : fill l z l.length = l := by
  unfold fill; rw [List.take_length, h, List.drop_length, List.append_nil]
theorem fill_length (l z : List Value) (m : Nat) (h : l.length = z.length) : (fill l z m).length = l.length := by simp [fill]; omega
theorem fill_set (l z : List Value) (m : Nat) (h : l.length = z.length) (hm : m < l.length) (v : Value) (hv : l[m]? = some v) : (fill l z m).toArray.setIfInBounds m v = (fill l z (m + 1)).toArray := by
  rw [List.setIfInBounds_toArray]
  congr 1
  unfold fill
  rw [List.set_append_right _ _ (by simp; omega)]
  rw [List.drop_eq_getElem_cons (by omega : m < z.length)]
  simp only [List.length_take, Nat.min_eq_left (Nat.le_of_lt hm), Nat.sub_self, List.set_cons_zero]
  rw [List.take_succ_eq_append_getElem hm]
  have : l[m] = v := by rw [List.getElem?_eq_getElem hm] at hv; exact Option.some.inj hv
  rw [this]; simp

/-! ### a whole row read or written by an operation that bears a guard whose answer is known -/
section
variable {P : Program} {ops : Array Oper} {rest : List Oper} {o : Oper} {a : Act} {w : World} {Q : Exit → Act → World → Prop}
theorem wpList_of_wp (hw : Region.wanted o (yielded ops a.tmps) = true) (h : ∀ K : Act → World → Prop, (∀ a w, wpList P ops Q rest a w → K a w) → o.wp P a w K Q) : wpList P ops Q (o :: rest) a w :=
  wpList_step fun K hK => by rw [if_pos hw]; exact h K hK
theorem wpList_load_rowg (hw : Region.wanted o (yielded ops a.tmps) = true) (ty : TypeId) (x : Operand) (ho : o.op = .load ty x)
    (g : Nat) (hx : a.eval x = .pointer (some ⟨g, 0, none⟩)) (t : TypeId) (cs : Array Value) (fr : Nat × Nat) (d : TypeDesc) (hg : w.heap[g]? = some (.cells cs t fr))
    (hu : P.underlying ty = some d) (hd : (match d with | .struct _ | .array _ _ => true | _ => false) = true) (hi : (P.info? ty).map (·.size) = some cs.size)
    (h : wpList P ops Q rest (a.put o.dst (.agg cs)) w) : wpList P ops Q (o :: rest) a w :=
  wpList_of_wp hw fun _ hK => wp_load_row ty x ho g hx t cs fr d hg hu hd hi (hK _ _ h)
end
/-- A part of a guard: what a Bool equation decides. -/
theorem dec_false {p : Prop} [Decidable p] (h : ¬ p) : decide p = false := by simpa using h
theorem dec_true {p : Prop} [Decidable p] (h : p) : decide p = true := by simpa using h

/-- 'low | high' on ints that are no negative ones and do not overlap: their sum. -/
theorem or_i64 (i : Nat) (y x : Int) (hy₀ : 0 ≤ y) (hy : y < 2 ^ i) (hy₁ : y < 2 ^ 62) (hx₀ : 0 ≤ x) (hx : x % 2 ^ i = 0) (hx₁ : x < 2 ^ 62) : bits .or .i64 y x = y + x :=
  bits_join_low .i64 62 (by decide) (fun n h0 h1 => IntWalk.i64_in n (by omega)) i y x hy₀ hy hy₁ hx₀ hx hx₁

/-! ### endings -/
def Ret1 (R : Value → Prop) (e : Ending) : Prop := ∃ x, e = .returned x ∧ R x
def Ret2 (R : Value → Value → Prop) (e : Ending) : Prop := ∃ x y, e = .returned (.tuple #[x, y]) ∧ R x y

theorem results_row_tmp {P : Program} {fn : Func} {p u : Tmp} {ty : TypeId} (h : fn.results = #[.cell p ty, .tmp u]) (tmps : Array Value) (w : World) (g : Nat) (t : TypeId) (cs : Array Value) (fr : Nat × Nat) (d : TypeDesc)
    (hp : tmps.getD p undef = .pointer (some ⟨g, 0, none⟩)) (hg : w.heap[g]? = some (.cells cs t fr))
    (hu : P.underlying ty = some d) (hd : (match d with | .struct _ | .array _ _ => true | _ => false) = true) (hi : (P.info? ty).map (·.size) = some cs.size) :
    (results fn tmps).run P w = .ok (.tuple #[.agg cs, tmps.getD u undef]) w := by
  rw [results_cell_tmp h, hp]
  simp [asAddr, run_loadVar_row w g t ty cs fr d hg hu hd hi, Result.andThen]

/-! ### '==' on arrays -/
def eqElems (d : Nat) (elem : TypeId) (n : Nat) (xs ys : Array Value) : List Nat → Sem Bool
  | [] => pure true
  | i :: r => do
    let a ← part elem xs (i * n)
    let b ← part elem ys (i * n)
    let q ← Op.equalIn d elem a b
    if (!q) = true then pure false else eqElems d elem n xs ys r
theorem run_equalIn_array {P : Program} (d : Nat) (t elem : TypeId) (len : Nat) (ht : P.underlying t = some (.array len elem)) (i : TypeInfo) (hi : P.info? elem = some i) (xs ys : Array Value) (w : World) :
    (Op.equalIn (d + 1) t (.agg xs) (.agg ys)).run P w = (eqElems d elem i.size xs ys (List.range len)).run P w := by
  simp only [Op.equalIn, Sem.run_bind, run_underlying ht, Result.andThen_ok, sizeOf, typeInfo, run_program, hi, Sem.run_pure]
  rw [Std.Legacy.Range.forIn_eq_forIn_range']
  simp only [Std.Legacy.Range.size, Nat.sub_zero, Nat.add_sub_cancel, Nat.div_one, List.range_eq_range']
  generalize List.range' 0 len = fs
  clear ht
  induction fs generalizing w with
  | nil => simp [eqElems]
  | cons f fs ih =>
    simp only [List.forIn_cons, eqElems, Sem.run_bind]
    generalize (part elem xs (f * i.size)).run P w = r1
    cases r1 with
    | ok a w1 =>
      simp only [Result.andThen_ok]
      generalize (part elem ys (f * i.size)).run P w1 = r2
      cases r2 with
      | ok b w2 =>
        simp only [Result.andThen_ok]
        generalize (Op.equalIn d elem a b).run P w2 = r3
        cases r3 with
        | ok r w3 =>
          cases r
          · simp only [Result.andThen_ok, Bool.not_false, if_true, Sem.run_pure]
          · simp only [Result.andThen_ok, Bool.not_true, Bool.false_eq_true, if_false, Sem.run_pure]
            exact ih w3
        | halt x w3 => simp [Result.andThen]
      | halt x w2 => simp [Result.andThen]
    | halt x w1 => simp [Result.andThen]
theorem run_eqElems {P : Program} (d : Nat) (elem : TypeId) (n : Nat) (xs ys : Array Value) (q : Nat → Bool) (w : World) :
    ∀ l : List Nat, (∀ j ∈ l, ∃ a b, (part elem xs (j * n)).run P w = .ok a w ∧ (part elem ys (j * n)).run P w = .ok b w ∧ (Op.equalIn d elem a b).run P w = .ok (q j) w) →
      (eqElems d elem n xs ys l).run P w = .ok (l.all q) w := by
  intro l
  induction l with
  | nil => intro _; simp [eqElems]
  | cons j l ih =>
    intro h
    obtain ⟨a, b, h1, h2, h3⟩ := h j (List.mem_cons_self)
    simp only [eqElems, Sem.run_bind, h1, h2, h3, Result.andThen_ok, List.all_cons]
    cases hq : q j
    · simp [Sem.run_pure]
    · simpa using ih fun k hk => h k (List.mem_cons_of_mem _ hk)
end Go.Proofs.YtoofcnehoffllaaGreat
