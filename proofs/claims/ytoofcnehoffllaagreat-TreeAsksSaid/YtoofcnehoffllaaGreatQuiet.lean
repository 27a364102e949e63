/- A drawing region walked once over a class of worlds of one's own (Derived/Deep/Quiet): loads of whole rows, conversions; the class 'below B nothing has turned'. -/
import Derived.Test.YtoofcnehoffllaaGreatBase
import Derived.Deep.QuietTactic
import Derived.BigQuiet
namespace Go.Proofs.YtoofcnehoffllaaGreat
open Go.RowKit

section
variable {P : Program} {C : World → Prop} {o : Oper} {a : Act} {K : Act → Prop}
theorem wp_region_class {id : Nat} {Q : Exit → Act → World → Prop} {w : World} {l : List Oper} (hm : P.follows .mixedOrders = true) (hB : Region.lexB .any l.toArray = true) (hC : C { w with drawn := w.drawn + 1 })
    (h : wpQuiet P l.toArray C (fun a' => ∀ w', C w' → Q .normal a' w') l a) : (Code.region id l.toArray true).wp P Q a w :=
  wp_region_quiet (C := C) hm hB hC (by simpa using h)
theorem quiet_load_row (ty : TypeId) (x : Operand) (ho : o.op = .load ty x)
    (g : Nat) (hx : a.eval x = .pointer (some ⟨g, 0, none⟩)) (t : TypeId) (cs : Array Value) (fr : Nat × Nat) (d : TypeDesc) (hg : ∀ w, C w → w.heap[g]? = some (.cells cs t fr))
    (hu : P.underlying ty = some d) (hd : (match d with | .struct _ | .array _ _ => true | _ => false) = true) (hi : (P.info? ty).map (·.size) = some cs.size)
    (hk : K (a.put o.dst (.agg cs))) : o.quiet P a C K :=
  ⟨_, fun w hw => by
    unfold Oper.quietAt execOp
    simp only [ho, hx, Instr.loadAt, Instr.sureAddr, Sem.run_bind, Sem.run_pure, Result.andThen_ok, run_loadVar_row w g t ty cs fr d (hg w hw) hu hd hi]
    exact ⟨rfl, rfl⟩, hk⟩
theorem quiet_convert (s t : TypeId) (x : Operand) (ho : o.op = .convert s t x) (v : Value) (hc : ∀ w, C w → (convert s t (a.eval x)).run P w = .ok v w)
    (hk : K (a.put o.dst v)) : o.quiet P a C K :=
  ⟨v, fun w hw => by
    unfold Oper.quietAt execOp
    rw [ho]
    simp [hc w hw, Result.andThen, Oper.quietUpon], hk⟩
/-- Any operation that yields v and leaves the world. -/
theorem quiet_of_run (v : Value) (hr : ∀ w, C w → (execOp a.eval o).run P w = .ok (.value v) w) (hk : K (a.put o.dst v)) : o.quiet P a C K :=
  ⟨v, fun w hw => by unfold Oper.quietAt; rw [hr w hw]; exact ⟨rfl, rfl⟩, hk⟩
end
/-- The class 'below B nothing has turned', as the walk's simplifier likes it: the values of a function. -/
theorem below_class (B : Nat) (w : World) : ∃ (T : Type) (f : T → World), Nonempty T ∧ (∀ t, Below B w (f t)) ∧ ∀ w', Below B w w' → ∃ t, w' = f t :=
  ⟨{ w' : World // Below B w w' }, Subtype.val, ⟨⟨w, Below.refl _ w⟩⟩, fun t => t.2, fun w' h => ⟨⟨w', h⟩, rfl⟩⟩
end Go.Proofs.YtoofcnehoffllaaGreat
