/- Appends to rows of ints that the call owns: of one int, of a row; plain, and as a step of a region that draws its order. -/
import Derived.Test.YtoofcnehoffllaaOwn
import Derived.Maps.AppendAt
namespace Go.Proofs.Ytoofcnehoffllaa
open Go.RowKit

abbrev OwnI (w : World) (B : Nat) (v : Value) (l : List Int) : Prop := IntsAt 3 w B v l
theorem infoInt : (Try.prog.info? 3).map (fun i => (i.zero, i.size, i.bytes)) = some (some (.int .i64 0), 1, 8) := by kernel_rfl
section
variable {ops : Array Oper} {rest : List Oper} {o : Oper} {a : Act} {w : World} {K : Act → World → Prop} {Q : Exit → Act → World → Prop} {E : Prop} {B : Nat} {v : Value} {l m : List Int}
theorem step_append_ints (hgd : o.guard = none) (s x : Operand) (ho : o.op = .call { callee := .builtin .append, args := #[s, x], argTypes := #[22, 22] })
    (hs : a.eval s = v) (hown : OwnI w B v l) (nb off c : Nat) (hx : a.eval x = .slice (some ⟨nb, off, none⟩) m.length c) (hnews : ∀ (j : Nat) y, m[j]? = some y → w.cell? ⟨nb, off + j, none⟩ = some (.int .i64 y)) (hm : 0 < m.length) (hlen : l.length + m.length ≤ 1000000000) (hB : B ≤ w.heap.size)
    (h : ∀ g cap w', OwnI w' B (.slice (some ⟨g, 0, none⟩) (l.length + m.length) cap) (l ++ m) → Fr (fun y => v.ownBlock = some y) w w' → (v.ownBlock = some g ∨ w.heap.size ≤ g) → g < w'.heap.size → K (a.put o.dst (.slice (some ⟨g, 0, none⟩) (l.length + m.length) cap)) w') :
    if Region.wanted o (yielded ops a.tmps) = true then Oper.wp Try.prog o a w K Q else E := by
  obtain ⟨i0, hi, hz0, hz1, hz2⟩ := info_parts infoInt
  refine step_append_lies w hgd s x 22 ho B 3 i0 _ 1 8 Try.underlying22 hi hz0 hz1 hz2 rfl (by decide) v l.length (ints l) hs hown ⟨nb, off, none⟩ m.length c (ints m) hx (by rw [ints_length]; omega) ?_ (ints_one _) hm (by unfold maxLen; omega) (by omega) hB _ rfl ?_
  · intro j u hj
    have hadd : (⟨nb, off, none⟩ : Addr).add j = ⟨nb, off + j, none⟩ := by unfold Addr.add; split <;> simp_all
    rw [hadd]
    unfold ints at hj
    rw [List.getElem?_map] at hj
    obtain ⟨y, hy, rfl⟩ := Option.map_eq_some_iff.1 hj
    exact hnews j y hy
  · intro g cap w' h1 h2 h3 h4
    refine h g cap w' ?_ (Fr.grown h2) (h3.imp id fun e => by omega) h4
    unfold OwnI IntsAt
    rw [List.length_append, ints_append]; exact h1
theorem wpList_append_ints (hgd : o.guard = none) (s x : Operand) (ho : o.op = .call { callee := .builtin .append, args := #[s, x], argTypes := #[22, 22] })
    (hs : a.eval s = v) (hown : OwnI w B v l) (nb off c : Nat) (hx : a.eval x = .slice (some ⟨nb, off, none⟩) m.length c) (hnews : ∀ (j : Nat) y, m[j]? = some y → w.cell? ⟨nb, off + j, none⟩ = some (.int .i64 y)) (hm : 0 < m.length) (hlen : l.length + m.length ≤ 1000000000) (hB : B ≤ w.heap.size)
    (h : ∀ g cap w', OwnI w' B (.slice (some ⟨g, 0, none⟩) (l.length + m.length) cap) (l ++ m) → Fr (fun y => v.ownBlock = some y) w w' → (v.ownBlock = some g ∨ w.heap.size ≤ g) → g < w'.heap.size → wpList Try.prog ops Q rest (a.put o.dst (.slice (some ⟨g, 0, none⟩) (l.length + m.length) cap)) w') :
    wpList Try.prog ops Q (o :: rest) a w :=
  wpList_step fun K hK => by
    have := step_append_ints (Q := Q) (ops := ops) (E := False) (K := K) hgd s x ho hs hown nb off c hx hnews hm hlen hB fun g cap w' h1 h2 h3 h4 => hK _ _ (h g cap w' h1 h2 h3 h4)
    have hw : Region.wanted o (yielded ops a.tmps) = true := by simp [Region.wanted, hgd]
    rw [if_pos hw] at this ⊢
    exact this
/-- The slice v reads as the ints l, from the head of a block from B on (which may be longer); or l is empty. -/
def RowI (w : World) (B : Nat) (v : Value) (l : List Int) : Prop :=
  ∃ a c, v = .slice a l.length c ∧ l.length ≤ c ∧ (0 < l.length → ∃ g cur, a = some ⟨g, 0, none⟩ ∧ B ≤ g ∧ w.heap[g]? = some (.cells cur 3 (0, 0)) ∧ cur.toList.take l.length = ints l)
theorem OwnI.row (h : OwnI w B v l) : RowI w B v l := by
  rcases h.2 with ⟨rfl, h0⟩ | ⟨g, cap, cur, rfl, h0, hg, hc, _, _, ht⟩
  · exact ⟨none, 0, by rw [h0], by omega, fun h => by omega⟩
  · exact ⟨_, cap, rfl, hc, fun _ => ⟨g, cur, rfl, h0, hg, by rw [Nat.mul_one] at ht; exact ht⟩⟩
theorem RowI.fr' {w' : World} {S : Nat → Prop} (h : RowI w B v l) (hf : Fr S w w') (hs : 0 < l.length → ∀ g, v.ownBlock = some g → ¬ S g) : RowI w' B v l := by
  obtain ⟨a, c, rfl, hc, hr⟩ := h
  refine ⟨a, c, rfl, hc, fun h0 => ?_⟩
  obtain ⟨g, cur, rfl, hB, hg, ht⟩ := hr h0
  exact ⟨g, cur, rfl, hB, by rw [hf.block g (blk_lt hg) (hs h0 g rfl)]; exact hg, ht⟩
theorem RowI.fr {w' : World} {S : Nat → Prop} (h : RowI w B v l) (hf : Fr S w w') (hs : ∀ g, v.ownBlock = some g → ¬ S g) : RowI w' B v l := h.fr' hf fun _ => hs
theorem RowI.below {w' : World} (h : RowI w B v l) (hb : Below w.heap.size w w') : RowI w' B v l := h.fr (S := fun _ => False) (Fr.below hb) fun _ _ => id
theorem RowI.mono {B' : Nat} (h : RowI w B v l) (hB : B' ≤ B) : RowI w B' v l := by
  obtain ⟨a, c, rfl, hc, hr⟩ := h
  refine ⟨a, c, rfl, hc, fun h0 => ?_⟩
  obtain ⟨g, cur, rfl, hb, r⟩ := hr h0
  exact ⟨g, cur, rfl, Nat.le_trans hB hb, r⟩
theorem RowI.shape (h : RowI w B v l) : ∃ a c, v = .slice a l.length c := by
  obtain ⟨a, c, rfl, _⟩ := h
  exact ⟨a, c, rfl⟩
theorem RowI.cells (h : RowI w B v l) (hl : 0 < l.length) : ∃ g c, v = .slice (some ⟨g, 0, none⟩) l.length c ∧ l.length ≤ c ∧ B ≤ g ∧ g < w.heap.size ∧ ∀ (j : Nat) x, l[j]? = some x → w.cell? ⟨g, j, none⟩ = some (.int .i64 x) := by
  obtain ⟨a, c, rfl, hc, hr⟩ := h
  obtain ⟨g, cur, rfl, hB, hg, ht⟩ := hr hl
  refine ⟨g, c, rfl, hc, hB, blk_lt hg, fun j x hj => ?_⟩
  have hjl := (List.getElem?_eq_some_iff.1 hj).1
  refine cell_blk_some hg ?_
  have h1 : (List.take l.length cur.toList)[j]? = (ints l)[j]? := by rw [ht]
  rw [ints_at hj, List.getElem?_take_of_lt hjl, Array.getElem?_toList] at h1
  exact h1
theorem RowI.lt (h : RowI w B v l) (hl : 0 < l.length) : ∀ k, v.ownBlock = some k → B ≤ k ∧ k < w.heap.size := fun k hk => by
  obtain ⟨g, c, rfl, _, hB, hg, _⟩ := h.cells hl
  injection hk with hk
  subst hk
  exact ⟨hB, hg⟩
/-- A row that has just been laid. -/
theorem RowI.lit {w : World} (c : Array Value) (l : List Int) (h : c.toList = ints l) : RowI (w.alloc (.cells c 3)) w.heap.size (.slice (some ⟨w.heap.size, 0, none⟩) l.length l.length) l :=
  ⟨_, _, rfl, Nat.le_refl _, fun _ => ⟨w.heap.size, c, rfl, Nat.le_refl _, blk_new rfl, by
    have : l.length = c.toList.length := by rw [h, ints_length]
    rw [this, List.take_length]; exact h⟩⟩
/-- The one int of a new block. -/
theorem news_one {w : World} {nb : Nat} {x : Int} {t : TypeId} {z : Nat × Nat} (h : w.heap[nb]? = some (.cells #[.int .i64 x] t z)) : ∀ (j : Nat) y, [x][j]? = some y → w.cell? ⟨nb, 0 + j, none⟩ = some (.int .i64 y) := fun j y hj => by
  match j, hj with
  | 0, hj => exact cell_blk_some h (by rw [← Option.some.inj hj]; rfl)
  | j + 1, hj => simp at hj
theorem run_append_of_nil (base : Nat) (t ty e : TypeId) (i : TypeInfo) (size : Nat) {P : Program} (ht : P.underlying t = some (.slice e)) (hi : P.info? e = some i)
    (v : Value) (n : Nat) (xs : List Value) (hown : w.ownsRow base e size v n xs) (c : Nat) : (Builtin.append_ #[t, t] ty #[v, .slice none 0 c]).run P w = .ok v w := by
  rcases hown.2 with ⟨rfl, rfl⟩ | ⟨g, cap, cur, rfl, _, _, hnc, _⟩
  · simp [Builtin.append_, run_underlying ht, sizeOf, typeInfo, hi, Builtin.lenOf, Builtin.firstCells]
  · simp [Builtin.append_, run_underlying ht, sizeOf, typeInfo, hi, Builtin.lenOf, Builtin.firstCells, hnc, storeCells]
/-- A row appended to a row, whatever their lengths. -/
theorem run_append_rows {x : Value} {B2 : Nat} (hown : OwnI w B v l) (hx : RowI w B2 x m) (hlen : l.length + m.length ≤ 1000000000) (hB : B ≤ w.heap.size) (ty : TypeId) :
    ∃ v' w', (Builtin.append_ #[22, 22] ty #[v, x]).run Try.prog w = .ok v' w' ∧ OwnI w' B v' (l ++ m) ∧ Fr (fun y => v.ownBlock = some y) w w' ∧ (v'.ownBlock = v.ownBlock ∨ v'.ownBlock = some w.heap.size) := by
  obtain ⟨i0, hi, hz0, hz1, hz2⟩ := info_parts infoInt
  obtain ⟨a, c, rfl, hc, hr⟩ := hx
  have key : ∀ ad : Addr, a = some ad → (∀ (j : Nat) u, (ints m)[j]? = some u → w.cell? (ad.add j) = some u) → ∃ v' w', (Builtin.append_ #[22, 22] ty #[v, .slice a m.length c]).run Try.prog w = .ok v' w' ∧ OwnI w' B v' (l ++ m) ∧ Fr (fun y => v.ownBlock = some y) w w' ∧ (v'.ownBlock = v.ownBlock ∨ v'.ownBlock = some w.heap.size) := by
    intro ad ha hcells
    subst ha
    obtain ⟨v', w', hrun, h2, h3, _, h5⟩ := run_append_own_at (P := Try.prog) w B 22 ty 3 i0 _ 1 8 Try.underlying22 hi hz0 hz1 hz2 rfl (by decide) v l.length (ints l) hown ad m.length c (ints m) (by rw [ints_length]; omega) hcells (ints_one _) (by unfold maxLen; omega) (by omega) hB
    refine ⟨v', w', hrun, ?_, Fr.grown h3, h5⟩
    unfold OwnI IntsAt
    rw [List.length_append, ints_append]; exact h2
  by_cases h0 : 0 < m.length
  · obtain ⟨g, cur, rfl, _, hg, ht⟩ := hr h0
    refine key _ rfl fun j u hj => ?_
    have hjl := (List.getElem?_eq_some_iff.1 hj).1
    rw [ints_length] at hjl
    have hadd : (⟨g, 0, none⟩ : Addr).add j = ⟨g, j, none⟩ := by unfold Addr.add; split <;> simp_all
    rw [hadd]
    refine cell_blk_some hg ?_
    have h1 : (List.take m.length cur.toList)[j]? = (ints m)[j]? := by rw [ht]
    rw [hj, List.getElem?_take_of_lt hjl, Array.getElem?_toList] at h1
    exact h1
  · have hm : m = [] := List.eq_nil_of_length_eq_zero (by omega)
    subst hm
    cases a with
    | some ad => exact key _ rfl fun j u hj => by simp [ints] at hj
    | none =>
      refine ⟨v, w, ?_, by rw [List.append_nil]; exact hown, Fr.refl _ _, .inl rfl⟩
      have := run_append_of_nil (w := w) B 22 ty 3 i0 1 (P := Try.prog) Try.underlying22 hi v l.length (ints l) hown c
      exact this
theorem wp_append_rows {x' : Value} {B2 : Nat} (s x : Operand) (ho : o.op = .call { callee := .builtin .append, args := #[s, x], argTypes := #[22, 22] })
    (hs : a.eval s = v) (hown : OwnI w B v l) (hx : a.eval x = x') (hr : RowI w B2 x' m) (hlen : l.length + m.length ≤ 1000000000) (hB : B ≤ w.heap.size)
    (h : ∀ v' w', OwnI w' B v' (l ++ m) → Fr (fun y => v.ownBlock = some y) w w' → (v'.ownBlock = v.ownBlock ∨ v'.ownBlock = some w.heap.size) → K (a.put o.dst v') w') : o.wp Try.prog a w K Q := by
  obtain ⟨v', w', hrun, h2, h3, h4⟩ := run_append_rows hown hr hlen hB o.type
  unfold Oper.wp execOp
  simp only [ho, resolve, invoke, builtin, Sem.run_bind, Sem.run_pure, Result.andThen_ok, List.map_toArray, List.map_cons, List.map_nil, hs, hx, hrun]
  exact h v' w' h2 h3 h4
theorem wpList_append_rows {x' : Value} {B2 : Nat} (hgd : o.guard = none) (s x : Operand) (ho : o.op = .call { callee := .builtin .append, args := #[s, x], argTypes := #[22, 22] })
    (hs : a.eval s = v) (hown : OwnI w B v l) (hx : a.eval x = x') (hr : RowI w B2 x' m) (hlen : l.length + m.length ≤ 1000000000) (hB : B ≤ w.heap.size)
    (h : ∀ v' w', OwnI w' B v' (l ++ m) → Fr (fun y => v.ownBlock = some y) w w' → (v'.ownBlock = v.ownBlock ∨ v'.ownBlock = some w.heap.size) → wpList Try.prog ops Q rest (a.put o.dst v') w') : wpList Try.prog ops Q (o :: rest) a w :=
  wpList_of_wp (by simp [Region.wanted, hgd]) fun _ hK => wp_append_rows s x ho hs hown hx hr hlen hB fun v' w' h2 h3 h4 => hK _ _ (h v' w' h2 h3 h4)
theorem step_append_rows {x' : Value} {B2 : Nat} (hgd : o.guard = none) (s x : Operand) (ho : o.op = .call { callee := .builtin .append, args := #[s, x], argTypes := #[22, 22] })
    (hs : a.eval s = v) (hown : OwnI w B v l) (hx : a.eval x = x') (hr : RowI w B2 x' m) (hlen : l.length + m.length ≤ 1000000000) (hB : B ≤ w.heap.size)
    (h : ∀ v' w', OwnI w' B v' (l ++ m) → Fr (fun y => v.ownBlock = some y) w w' → (v'.ownBlock = v.ownBlock ∨ v'.ownBlock = some w.heap.size) → K (a.put o.dst v') w') :
    if Region.wanted o (yielded ops a.tmps) = true then Oper.wp Try.prog o a w K Q else E := by
  have hw : Region.wanted o (yielded ops a.tmps) = true := by simp [Region.wanted, hgd]
  rw [if_pos hw]
  exact wp_append_rows s x ho hs hown hx hr hlen hB h
end
end Go.Proofs.Ytoofcnehoffllaa
