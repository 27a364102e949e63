/- Appends to a slice that the call owns, beside one block of the call's own that is laid at any time between them: a law at a step of a region that draws its order. -/
import Derived.Test.YtggfdhjckohmjaaDoorE18
import Derived.Maps.AppendAt
import Derived.Deep.MidRow
import Derived.Deep.AppendLies
namespace Go.Proofs.YtggfdhjckohmjaaDoor
open Go.RowKit

/-- v owns the bytes xs; the block in O (if one is laid) is another one, and bears 16 cells. -/
def Held (w : World) (B : Nat) (v : Value) (n : Nat) (xs : List Value) (O : Option Nat) : Prop :=
  w.ownsRow B 5 1 v n xs ∧ ∀ b, O = some b → w.there b 0 16 ∧ v.ownBlock ≠ some b ∧ B ≤ b ∧ b < w.heap.size

theorem there_new {w : World} {c : Array Value} {t : TypeId} (hc : c.size = 16) : (w.alloc (.cells c t)).there w.heap.size 0 16 := fun j hj => by
  have hb : (w.alloc (.cells c t)).heap[w.heap.size]? = some (.cells c t (0, 0)) := blk_new rfl
  rw [Nat.zero_add]
  exact ⟨by rw [cell_blk hb, Array.getElem?_eq_getElem (by omega)]; rfl, free_blk (i := j) hb⟩
theorem there_of_heap {w w' : World} {b : Nat} (h : w'.heap[b]? = w.heap[b]?) (ht : w.there b 0 16) : w'.there b 0 16 := fun j hj => by
  rw [World.cell?_of_block (w := w) (a := ⟨b, 0 + j, none⟩) h, World.frozen?_of_block (w := w) (a := ⟨b, 0 + j, none⟩) h]
  exact ht j hj
theorem own_lt {w : World} {B n : Nat} {v : Value} {xs : List Value} (h : w.ownsRow B 5 1 v n xs) : v.ownBlock ≠ some w.heap.size := by
  rcases h.2 with ⟨rfl, _⟩ | ⟨g, cap, cur, rfl, hb, hg, _⟩
  · simp [Value.ownBlock]
  · have := blk_lt hg
    simp [Value.ownBlock]; omega

theorem Held.alloc {w : World} {B n : Nat} {v : Value} {xs : List Value} (h : Held w B v n xs none) (c : Array Value) (t : TypeId) (hc : c.size = 16) (hB : B ≤ w.heap.size) :
    Held (w.alloc (.cells c t)) B v n xs (some w.heap.size) := by
  refine ⟨h.1.alloc _, fun b hb => ?_⟩
  obtain rfl := Option.some.inj hb
  exact ⟨there_new hc, own_lt h.1, hB, by simp⟩
theorem Held.fresh (w : World) {B : Nat} (hB : B ≤ w.heap.size) : Held (w.alloc (.cells #[] 5)) B (.slice (some ⟨w.heap.size, 0, none⟩) 0 0) 0 [] none :=
  ⟨⟨rfl, .inr ⟨w.heap.size, 0, #[], rfl, hB, blk_new rfl, Nat.le_refl _, by decide, rfl, rfl⟩⟩, fun b hb => by cases hb⟩
theorem Held.fresh_after (w : World) {B : Nat} (hB : B ≤ w.heap.size) (c : Array Value) (t : TypeId) (hc : c.size = 16) :
    Held ((w.alloc (.cells c t)).alloc (.cells #[] 5)) B (.slice (some ⟨(w.alloc (.cells c t)).heap.size, 0, none⟩) 0 0) 0 [] (some w.heap.size) := by
  refine ⟨(Held.fresh (w.alloc (.cells c t)) (by simp; omega)).1, fun b hb => ?_⟩
  obtain rfl := Option.some.inj hb
  exact ⟨World.there_alloc (there_new hc) _, by simp [Value.ownBlock], hB, by simp; omega⟩

theorem Held.drew {w : World} {B n : Nat} {v : Value} {xs : List Value} {O : Option Nat} (h : Held w B v n xs O) : Held w.drew B v n xs O := h
theorem Held.start1 (w : World) : Held (w.alloc (.cells #[] 5)).drew w.heap.size (.slice (some ⟨w.heap.size, 0, none⟩) 0 0) 0 [] none := (Held.fresh w (Nat.le_refl _)).drew
theorem Held.start2 (w : World) (c : Array Value) (t : TypeId) (hc : c.size = 16) : Held ((w.alloc (.cells #[] 5)).alloc (.cells c t)).drew w.heap.size (.slice (some ⟨w.heap.size, 0, none⟩) 0 0) 0 [] (some (w.heap.size + 1)) := by
  have := ((Held.fresh w (Nat.le_refl _)).alloc c t hc (by simp)).drew
  rw [show (w.alloc (.cells #[] 5)).heap.size = w.heap.size + 1 by simp] at this
  exact this
theorem Held.start3 (w : World) (c : Array Value) (t : TypeId) (hc : c.size = 16) : Held ((w.alloc (.cells c t)).alloc (.cells #[] 5)).drew w.heap.size (.slice (some ⟨w.heap.size + 1, 0, none⟩) 0 0) 0 [] (some w.heap.size) := by
  have := (Held.fresh_after w (Nat.le_refl _) c t hc).drew
  rw [show (w.alloc (.cells c t)).heap.size = w.heap.size + 1 by simp] at this
  exact this
theorem there_call {w w' : World} {B b n : Nat} {v : Value} {xs : List Value} (h : Held w B v n xs (some b)) (hb : Below w.heap.size w w') : w'.there b 0 16 ∧ B ≤ b := by
  obtain ⟨t1, _, t3, t4⟩ := h.2 b rfl
  exact ⟨there_of_heap (hb.block b t4) t1, t3⟩
theorem below_setCells {B b o : Nat} {a w : World} {vs : List Value} (h : Below B a w) (hb : B ≤ b) : Below B a (w.setCells b o vs) := by
  induction vs generalizing w o with
  | nil => exact h
  | cons x vs ih => exact ih (h.setCell hb _)
theorem news_at {w : World} {g o : Nat} {ys : List Int} (h : BytesAt w g o ys) : ∀ j u, (u8s ys)[j]? = some u → w.cell? ((⟨g, o, none⟩ : Addr).add j) = some u := by
  intro j u hu
  have hj : j < ys.length := by have := (List.getElem?_eq_some_iff.1 hu).1; simpa [u8s_length] using this
  have hadd : (⟨g, o, none⟩ : Addr).add j = ⟨g, o + j, none⟩ := by unfold Addr.add; split <;> simp_all
  rw [hadd, h j hj, ← hu]
  simp [u8s, List.getElem?_eq_getElem hj]
theorem ite_slice {p : Prop} [Decidable p] (a b : Addr) (m c : Nat) : Value.slice (if p then some a else some b) m c = Value.slice (some (if p then a else b)) m c := by split <;> rfl

section
variable {w : World}
theorem step_append_held {ops : Array Oper} {o : Oper} {a : Act} {K : Act → World → Prop} {Q : Exit → Act → World → Prop} {E : Prop} (hgd : o.guard = none) (s x : Operand)
    (ho : o.op = .call { callee := .builtin .append, args := #[s, x], argTypes := #[26, 26] })
    (B : Nat) (v : Value) (n : Nat) (xs : List Value) (O : Option Nat) (hs : a.eval s = v) (hown : Held w B v n xs O)
    (w0 : World) (hbel : Below B w0 w)
    (ad : Addr) (m c : Nat) (news : List Value) (hx : a.eval x = .slice (some ad) m c) (hl : news.length = m) (hnews : ∀ j u, news[j]? = some u → w.cell? (ad.add j) = some u) (h1 : ∀ u ∈ news, u.oneCell' = true)
    (hsm : n + m ≤ 1000) (hbase : B ≤ w.heap.size)
    (h : ∀ v' w', Held w' B v' (n + m) (xs ++ news) O → Below B w0 w' → B ≤ w'.heap.size → K (a.put o.dst v') w') :
    if Region.wanted o (yielded ops a.tmps) = true then Oper.wp Tryd.prog o a w K Q else E := by
  have hw : Region.wanted o (yielded ops a.tmps) = true := by simp [Region.wanted, hgd]
  rw [if_pos hw]
  obtain ⟨i0, hi, hz0, hz1, hz2⟩ := info_parts infoByte
  obtain ⟨v', w', hr, h2, h3, _, h5⟩ := run_append_own_at (P := Tryd.prog) w B 26 o.type 5 i0 (.int .u8 0) 1 1 Tryd.underlying26 hi hz0 hz1 hz2 rfl (by decide) v n xs hown.1 ad m c news (by rw [hl, Nat.mul_one]) hnews h1 (by unfold maxLen; omega) (by omega) hbase
  unfold Oper.wp execOp
  simp only [ho, resolve, invoke, builtin, Sem.run_bind, Sem.run_pure, Result.andThen_ok, List.map_toArray, List.map_cons, List.map_nil, hs, hx, hr]
  refine h v' w' ⟨h2, fun b hb => ?_⟩ (hbel.grown h3 hbase (fun k hk => (hown.1.lt k hk).1)) (Nat.le_trans hbase h3.size)
  obtain ⟨t1, t2, t3, t4⟩ := hown.2 b hb
  refine ⟨there_of_heap (h3.block b t4 (fun e => t2 e.symm)) t1, ?_, t3, Nat.lt_of_lt_of_le t4 h3.size⟩
  rcases h5 with h5 | h5 <;> rw [h5]
  · exact t2
  · intro e; have := Option.some.inj e; omega
end
end Go.Proofs.YtggfdhjckohmjaaDoor
