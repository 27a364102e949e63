/- Rows of elements of any type that the call owns: append of any row of such elements; plain, and as a step of a region that draws its order. -/
import Derived.Test.YtoofcnehoffllaaGreatInts
namespace Go.Proofs.YtoofcnehoffllaaGreat
open Go.RowKit

/-- T is the type of slices of E, which has k cells and bt bytes, z for its zero. -/
structure ElT (P : Program) (T E : TypeId) (k bt : Nat) (z : Value) : Prop where
  und : P.underlying T = some (.slice E)
  info : (P.info? E).map (fun i => (i.zero, i.size, i.bytes)) = some (some z, k, bt)
  zs : z.cells.size = k
  pos : 0 < k
/-- A slice of n elements that reads as the cells xs. -/
def SrcG (k : Nat) (w : World) (v : Value) (n : Nat) (xs : List Value) : Prop :=
  ∃ a c, v = .slice a n c ∧ xs.length = n * k ∧ (∀ u ∈ xs, u.oneCell' = true) ∧ (0 < n → ∃ ad, a = some ad ∧ ∀ (j : Nat) u, xs[j]? = some u → w.cell? (ad.add j) = some u)
section
variable {P : Program} {T E : TypeId} {k bt : Nat} {z : Value} {ops : Array Oper} {rest : List Oper} {o : Oper} {a : Act} {w : World} {K : Act → World → Prop} {Q : Exit → Act → World → Prop} {F : Prop} {B : Nat} {v x : Value} {n m : Nat} {xs ys : List Value}
theorem run_append_g (h : ElT P T E k bt z) (hown : w.ownsRow B E k v n xs) (hx : SrcG k w x m ys) (h63 : n + m ≤ maxLen) (hlen : (n + m) * bt ≤ 140737488355328) (hB : B ≤ w.heap.size) (ty : TypeId) :
    ∃ v' w', (Builtin.append_ #[T, T] ty #[v, x]).run P w = .ok v' w' ∧ w'.ownsRow B E k v' (n + m) (xs ++ ys) ∧ Fr (fun y => v.ownBlock = some y) w w' ∧ (v'.ownBlock = v.ownBlock ∨ v'.ownBlock = some w.heap.size) := by
  obtain ⟨i0, hi, hz0, hz1, hz2⟩ := info_parts h.info
  obtain ⟨ad, c, rfl, hl, h1, hr⟩ := hx
  have key : ∀ ad' : Addr, ad = some ad' → (∀ (j : Nat) u, ys[j]? = some u → w.cell? (ad'.add j) = some u) → ∃ v' w', (Builtin.append_ #[T, T] ty #[v, .slice ad m c]).run P w = .ok v' w' ∧ w'.ownsRow B E k v' (n + m) (xs ++ ys) ∧ Fr (fun y => v.ownBlock = some y) w w' ∧ (v'.ownBlock = v.ownBlock ∨ v'.ownBlock = some w.heap.size) := by
    intro ad' ha hcells
    subst ha
    obtain ⟨v', w', hrun, h2, h3, _, h5⟩ := run_append_own_at (P := P) w B T ty E i0 z k bt h.und hi hz0 hz1 hz2 h.zs h.pos v n xs hown ad' m c ys hl hcells h1 h63 hlen hB
    exact ⟨v', w', hrun, h2, Fr.grown h3, h5⟩
  by_cases h0 : 0 < m
  · obtain ⟨ad', ha, hc⟩ := hr h0
    exact key ad' ha hc
  · obtain rfl : m = 0 := by omega
    have hy : ys = [] := List.eq_nil_of_length_eq_zero (by rw [hl, Nat.zero_mul])
    subst hy
    cases ad with
    | some ad' => exact key ad' rfl fun j u hj => by simp at hj
    | none => exact ⟨v, w, run_append_of_nil B T ty E i0 k h.und hi v n xs hown c, by rw [List.append_nil, Nat.add_zero]; exact hown, Fr.refl _ _, .inl rfl⟩
theorem wp_append_g (s y : Operand) (ho : o.op = .call { callee := .builtin .append, args := #[s, y], argTypes := #[T, T] }) (h : ElT P T E k bt z)
    (hs : a.eval s = v) (hown : w.ownsRow B E k v n xs) (hy : a.eval y = x) (hx : SrcG k w x m ys) (h63 : n + m ≤ maxLen) (hlen : (n + m) * bt ≤ 140737488355328) (hB : B ≤ w.heap.size)
    (hK : ∀ v' w', w'.ownsRow B E k v' (n + m) (xs ++ ys) → Fr (fun y => v.ownBlock = some y) w w' → (v'.ownBlock = v.ownBlock ∨ v'.ownBlock = some w.heap.size) → K (a.put o.dst v') w') : o.wp P a w K Q := by
  obtain ⟨v', w', hrun, h2, h3, h4⟩ := run_append_g h hown hx h63 hlen hB o.type
  unfold Oper.wp execOp
  simp only [ho, resolve, invoke, builtin, Sem.run_bind, Sem.run_pure, Result.andThen_ok, List.map_toArray, List.map_cons, List.map_nil, hs, hy, hrun]
  exact hK v' w' h2 h3 h4
theorem wpList_append_g (hgd : o.guard = none) (s y : Operand) (ho : o.op = .call { callee := .builtin .append, args := #[s, y], argTypes := #[T, T] }) (h : ElT P T E k bt z)
    (hs : a.eval s = v) (hown : w.ownsRow B E k v n xs) (hy : a.eval y = x) (hx : SrcG k w x m ys) (h63 : n + m ≤ maxLen) (hlen : (n + m) * bt ≤ 140737488355328) (hB : B ≤ w.heap.size)
    (hK : ∀ v' w', w'.ownsRow B E k v' (n + m) (xs ++ ys) → Fr (fun y => v.ownBlock = some y) w w' → (v'.ownBlock = v.ownBlock ∨ v'.ownBlock = some w.heap.size) → wpList P ops Q rest (a.put o.dst v') w') : wpList P ops Q (o :: rest) a w :=
  wpList_of_wp (by simp [Region.wanted, hgd]) fun _ hK' => wp_append_g s y ho h hs hown hy hx h63 hlen hB fun v' w' h2 h3 h4 => hK' _ _ (hK v' w' h2 h3 h4)
theorem step_append_g (hgd : o.guard = none) (s y : Operand) (ho : o.op = .call { callee := .builtin .append, args := #[s, y], argTypes := #[T, T] }) (h : ElT P T E k bt z)
    (hs : a.eval s = v) (hown : w.ownsRow B E k v n xs) (hy : a.eval y = x) (hx : SrcG k w x m ys) (h63 : n + m ≤ maxLen) (hlen : (n + m) * bt ≤ 140737488355328) (hB : B ≤ w.heap.size)
    (hK : ∀ v' w', w'.ownsRow B E k v' (n + m) (xs ++ ys) → Fr (fun y => v.ownBlock = some y) w w' → (v'.ownBlock = v.ownBlock ∨ v'.ownBlock = some w.heap.size) → K (a.put o.dst v') w') :
    if Region.wanted o (yielded ops a.tmps) = true then Oper.wp P o a w K Q else F := by
  have hw : Region.wanted o (yielded ops a.tmps) = true := by simp [Region.wanted, hgd]
  rw [if_pos hw]
  exact wp_append_g s y ho h hs hown hy hx h63 hlen hB hK
theorem SrcG.of_own (h : w.ownsRow B E k v n xs) (h1 : ∀ u ∈ xs, u.oneCell' = true) : SrcG k w v n xs := by
  rcases h.2 with ⟨rfl, rfl⟩ | ⟨g, cap, cur, rfl, _, hg, _, _, _, ht⟩
  · exact ⟨none, 0, rfl, h.1, h1, fun h => by omega⟩
  · refine ⟨_, cap, rfl, h.1, h1, fun _ => ⟨_, rfl, fun j u hj => ?_⟩⟩
    have hadd : (⟨g, 0, none⟩ : Addr).add j = ⟨g, j, none⟩ := by unfold Addr.add; split <;> simp_all
    rw [hadd]
    refine cell_blk_some hg ?_
    have hjl := (List.getElem?_eq_some_iff.1 hj).1
    rw [h.1] at hjl
    rw [← ht, List.getElem?_take_of_lt hjl, Array.getElem?_toList] at hj
    exact hj
/-- The cells of a block that has just been laid. -/
theorem SrcG.block {b : Nat} {t : TypeId} {f : Nat × Nat} {c : Nat} (hb : w.heap[b]? = some (.cells xs.toArray t f)) (hl : xs.length = n * k) (h1 : ∀ u ∈ xs, u.oneCell' = true) : SrcG k w (.slice (some ⟨b, 0, none⟩) n c) n xs :=
  ⟨_, c, rfl, hl, h1, fun _ => ⟨_, rfl, fun j u hj => by
    have hadd : (⟨b, 0, none⟩ : Addr).add j = ⟨b, j, none⟩ := by unfold Addr.add; split <;> simp_all
    rw [hadd]
    exact cell_blk_some hb (by simpa using hj)⟩⟩
theorem own_block {b : Nat} {c : Nat} (hb : w.heap[b]? = some (.cells xs.toArray E (0, 0))) (hl : xs.length = n * k) (hc : c = n) (hB : B ≤ b) (hm : n ≤ maxLen) : w.ownsRow B E k (.slice (some ⟨b, 0, none⟩) n c) n xs :=
  ⟨hl, .inr ⟨b, c, xs.toArray, rfl, hB, hb, by omega, by omega, by rw [hc]; simpa using hl, by rw [← hl]; simp⟩⟩
theorem own_cells (h : w.ownsRow B E k v n xs) (hl : 0 < n) : ∃ g c, v = .slice (some ⟨g, 0, none⟩) n c ∧ n ≤ c ∧ B ≤ g ∧ g < w.heap.size ∧ ∀ (j : Nat) u, xs[j]? = some u → w.cell? ⟨g, j, none⟩ = some u := by
  rcases h.2 with ⟨rfl, rfl⟩ | ⟨g, cap, cur, rfl, hB, hg, hc, _, _, ht⟩
  · omega
  · refine ⟨g, cap, rfl, hc, hB, blk_lt hg, fun j u hj => cell_blk_some hg ?_⟩
    have hjl := (List.getElem?_eq_some_iff.1 hj).1
    rw [h.1] at hjl
    rw [← ht, List.getElem?_take_of_lt hjl, Array.getElem?_toList] at hj
    exact hj
end
end Go.Proofs.YtoofcnehoffllaaGreat
