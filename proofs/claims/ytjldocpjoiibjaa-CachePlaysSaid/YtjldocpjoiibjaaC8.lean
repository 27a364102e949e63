/- A map from keys to buffers, as the memory has it: look up, put, delete, how many. -/
import Derived.Test.YtjldocpjoiibjaaC7
import Derived.MapKept
namespace Go.Proofs.Ytjldocpjoiibjaa
open Go.RowKit

theorem map_erase {α β : Type} (f : α → β) : ∀ (l : List α) (j : Nat), (l.eraseIdx j).map f = (l.map f).eraseIdx j
  | [], _ => by simp
  | _ :: _, 0 => by simp
  | x :: l, j + 1 => by simp [map_erase f l j]
/-- A block's object exchanged. -/
def setB (w : World) (b : Nat) (o : Obj) : World := { w with heap := w.heap.setIfInBounds b o }
def keyV (k : Int × Int) : Value := .agg #[.int .i64 k.1, .int .i64 k.2]
/-- The map's entries, in the order in which it holds them. -/
def Ents (w : World) (mb : Nat) (E : List ((Int × Int) × Value)) : Prop :=
  ∃ es clock, w.heap[mb]? = some (.map es clock) ∧ es.toList.map (fun e => (e.key, e.val)) = E.map fun x => (keyV x.1, x.2)
theorem run_key_eq (k l : Int × Int) (w : World) : (Op.equal 29 (keyV k) (keyV l)).run Try.prog w = .ok (decide (k = l)) w := by
  obtain ⟨a, b⟩ := k; obtain ⟨c, d⟩ := l
  show (Op.equalIn (9998 + 2) 29 (.agg #[.int .i64 a, .int .i64 b]) (.agg #[.int .i64 c, .int .i64 d])).run Try.prog w = _
  go_simp
  by_cases e0 : a = c <;> by_cases e1 : b = d <;> simp [e0, e1]
theorem run_check (k : Int × Int) (e : Bool) (w : World) : (Instr.checkKey e 10000 29 (keyV k)).run Try.prog w = .ok () w := by
  obtain ⟨a, b⟩ := k
  have hag := Try.isAgg3
  have hsz := Try.sizeOf3
  have hi : ∀ (n : Nat) (x : Int) (w : World), (Instr.checkKey e (n + 1) 3 (.int .i64 x)).run Try.prog w = .ok () w := fun n x w => by
    unfold Instr.checkKey
    simp [run_underlying Try.underlying3]
  show (Instr.checkKey e (9998 + 1 + 1) 29 (.agg #[.int .i64 a, .int .i64 b])).run Try.prog w = _
  rw [Instr.checkKey]
  simp [run_underlying Try.underlying29, part, hag, hsz, hi]
def findE (k : Int × Int) : List ((Int × Int) × Value) → Nat → Option (Nat × Value)
  | [], _ => none
  | x :: r, i => if k = x.1 then some (i, x.2) else findE k r (i + 1)
theorem run_asking (k : Int × Int) (w : World) : ∀ (es : List MapEntry) (E : List ((Int × Int) × Value)) (i : Nat), es.map (fun e => (e.key, e.val)) = E.map (fun x => (keyV x.1, x.2)) →
    (Instr.findAsking 29 (keyV k) es i).run Try.prog w = .ok (findE k E i) w
  | [], [], i, _ => rfl
  | [], x :: r, i, h => by simp at h
  | e :: es, [], i, h => by simp at h
  | e :: es, x :: r, i, h => by
    simp only [List.map_cons, List.cons.injEq, Prod.mk.injEq] at h
    obtain ⟨⟨h1, h2⟩, h3⟩ := h
    have ih := run_asking k w es r (i + 1) h3
    unfold Instr.findAsking findE
    rw [h1, Sem.run_bind, run_key_eq, Result.andThen_ok]
    by_cases hk : k = x.1
    · rw [if_pos hk, decide_eq_true hk, if_pos rfl, h2]; rfl
    · rw [if_neg hk, decide_eq_false hk, if_neg (by simp)]; exact ih
theorem run_find (k : Int × Int) (w : World) (es : List MapEntry) (E : List ((Int × Int) × Value)) (h : es.map (fun e => (e.key, e.val)) = E.map (fun x => (keyV x.1, x.2))) :
    (Instr.findKey 29 (keyV k) es).run Try.prog w = .ok (findE k E 0) w := by
  unfold Instr.findKey
  rw [Sem.run_bind, run_underlying Try.underlying29, Result.andThen_ok]
  have ha := run_asking k w es E 0 h
  cases es with
  | nil =>
    cases E with
    | nil => rfl
    | cons x r => simp at h
  | cons e es => exact ha
/-- A map's types here: its keys are cache.Key; an element is one word, z its zero. -/
theorem run_lookup_ents {t e : TypeId} (ht : Try.prog.underlying t = some (.map 29 e)) {z : Value} {w : World} (hz : (zeroValue e).run Try.prog w = .ok z w) {mb : Nat} {E : List ((Int × Int) × Value)} (h : Ents w mb E) (k : Int × Int) (ok : Bool) :
    (Instr.lookup t (.map (some mb)) (keyV k) ok).run Try.prog w = .ok (if ok then .tuple #[((findE k E 0).map (·.2)).getD z, .bool (findE k E 0).isSome] else ((findE k E 0).map (·.2)).getD z) w := by
  obtain ⟨es, clock, hm, he⟩ := h
  unfold Instr.lookup
  have hf := run_find k w es.toList E he
  have ho : (getObj mb).run Try.prog w = .ok (.map es clock) w := MapKept.run_getObj_map hm
  simp only [Sem.run_bind, run_underlying ht, Result.andThen_ok, ho, Sem.run_pure, run_check, hf]
  cases hq : findE k E 0 with
  | none => simp [hz, Result.andThen]
  | some x => simp
theorem run_len_ents {t e : TypeId} (ht : Try.prog.underlying t = some (.map 29 e)) {w : World} {mb : Nat} {E : List ((Int × Int) × Value)} (h : Ents w mb E) (ty : TypeId) :
    (Builtin.len_ #[t] ty #[.map (some mb)]).run Try.prog w = .ok (.int .i64 E.length) w := by
  obtain ⟨es, clock, hm, he⟩ := h
  have hl : es.size = E.length := by have := congrArg List.length he; simpa using this
  simp [Builtin.len_, run_underlying ht, MapKept.run_getObj_map hm, goInt, hl]
theorem findE_none {k : Int × Int} : ∀ {E : List ((Int × Int) × Value)} {i : Nat}, k ∉ E.map (·.1) → findE k E i = none
  | [], _, _ => rfl
  | x :: r, i, h => by
    rw [List.map_cons, List.mem_cons, not_or] at h
    rw [findE, if_neg h.1]; exact findE_none h.2
theorem findE_some {k : Int × Int} {v : Value} : ∀ {E : List ((Int × Int) × Value)} {i : Nat}, (E.map (·.1)).Nodup → (k, v) ∈ E → ∃ j, findE k E i = some (i + j, v) ∧ E[j]? = some (k, v)
  | [], _, _, h => by cases h
  | x :: r, i, hn, h => by
    rw [List.map_cons, List.nodup_cons] at hn
    by_cases hk : k = x.1
    · rcases List.mem_cons.1 h with h | h
      · exact ⟨0, by rw [findE, if_pos hk, ← h]; rfl, by rw [← h]; rfl⟩
      · exact absurd (hk ▸ List.mem_map.2 ⟨_, h, rfl⟩) hn.1
    · rcases List.mem_cons.1 h with h | h
      · exact absurd (by rw [← h]) hk
      · obtain ⟨j, h1, h2⟩ := findE_some (i := i + 1) hn.2 h
        exact ⟨j + 1, by rw [findE, if_neg hk, h1]; congr 2; omega, h2⟩
theorem setB_at {w : World} {b : Nat} {o : Obj} (h : b < w.heap.size) : (setB w b o).heap[b]? = some o := by
  show (w.heap.setIfInBounds b o)[b]? = _
  rw [Array.getElem?_setIfInBounds, if_pos rfl, if_pos h]
theorem setB_other {w : World} {b x : Nat} {o : Obj} (h : x ≠ b) : (setB w b o).heap[x]? = w.heap[x]? := by
  show (w.heap.setIfInBounds b o)[x]? = _
  rw [Array.getElem?_setIfInBounds, if_neg (Ne.symm h)]
theorem run_update_ents {t e : TypeId} (ht : Try.prog.underlying t = some (.map 29 e)) {w : World} {mb : Nat} {E : List ((Int × Int) × Value)} (h : Ents w mb E) {k : Int × Int} (hk : k ∉ E.map (·.1)) (v : Value) :
    ∃ o, (Instr.mapUpdate t (.map (some mb)) (keyV k) v).run Try.prog w = .ok () (setB w mb o) ∧ Ents (setB w mb o) mb (E ++ [(k, v)]) := by
  obtain ⟨es, clock, hm, he⟩ := h
  have hf := run_find k w es.toList E he
  rw [findE_none hk] at hf
  refine ⟨.map (es.push { key := keyV k, val := v, born := clock }) (clock + 1), ?_, ⟨_, _, setB_at (blk_lt hm), ?_⟩⟩
  · simp [Instr.mapUpdate, run_underlying ht, MapKept.run_getObj_map hm, run_check, hf, MapKept.run_setObj_map _ hm, Result.andThen, setB]
  · simp [he]
theorem run_delete_ents {t e : TypeId} (ht : Try.prog.underlying t = some (.map 29 e)) {w : World} {mb : Nat} {E : List ((Int × Int) × Value)} (h : Ents w mb E) (hn : (E.map (·.1)).Nodup) {k : Int × Int} {v : Value} (hk : (k, v) ∈ E) :
    ∃ o j, (∀ ty, (Builtin.delete_ #[t, 29] ty #[.map (some mb), keyV k]).run Try.prog w = .ok (.tuple #[]) (setB w mb o)) ∧ E[j]? = some (k, v) ∧ Ents (setB w mb o) mb (E.eraseIdx j) := by
  obtain ⟨es, clock, hm, he⟩ := h
  have hf := run_find k w es.toList E he
  obtain ⟨j, h1, h2⟩ := findE_some (i := 0) hn hk
  rw [h1, Nat.zero_add] at hf
  refine ⟨.map (es.eraseIdxIfInBounds j) clock, j, fun ty => ?_, h2, ⟨_, _, setB_at (blk_lt hm), ?_⟩⟩
  · simp [Builtin.delete_, run_underlying ht, MapKept.run_getObj_map hm, run_check, hf, MapKept.run_setObj_map _ hm, Result.andThen, setB]
  · have hes : (es.eraseIdxIfInBounds j).toList = es.toList.eraseIdx j := by
      unfold Array.eraseIdxIfInBounds
      split
      · simp
      · rename_i hj; rw [List.eraseIdx_of_length_le (by simpa using hj)]
    rw [hes, map_erase, map_erase, he]
end Go.Proofs.Ytjldocpjoiibjaa
