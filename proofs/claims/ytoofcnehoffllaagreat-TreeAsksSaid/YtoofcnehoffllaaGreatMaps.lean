/- Maps in memory as functions of their keys: whatever the program, whatever the kind of keys (a word, a text). -/
import Derived.Test.YtoofcnehoffllaaGreatFr
import Derived.MapKept
import Derived.Maps.OwnSet
import Derived.Maps.RangeRun
import Derived.Lib.SlKeysI
namespace Go.Proofs.YtoofcnehoffllaaGreat
open Go.RowKit

/-- How keys of type K are written: each one by ke, unlike ones by unlike values. -/
structure KL {α : Type} (P : Program) (K : TypeId) (d : TypeDesc) (ke : α → Value) : Prop where
  und : P.underlying K = some d
  isKey : ∀ a, MapKept.IsKey d (ke a)
  inj : ∀ a b, ke a = ke b → a = b
/-- The map in block mb is the function f. -/
def MapIs {α : Type} (ke : α → Value) (w : World) (mb : Nat) (f : α → Option Value) : Prop :=
  ∃ es clock, w.heap[mb]? = some (.map es clock) ∧ MapKept.Stamped es clock ∧ (∀ e ∈ es.toList, ∃ k, e.key = ke k ∧ f k = some e.val) ∧ ∀ k v, f k = some v → ∃ e ∈ es.toList, e.key = ke k ∧ e.val = v
open Classical in
noncomputable def putK {α : Type} (f : α → Option Value) (k : α) (v : Value) : α → Option Value := fun x => if x = k then some v else f x
open Classical in
noncomputable def delK {α : Type} (f : α → Option Value) (k : α) : α → Option Value := fun x => if x = k then none else f x
section
variable {α : Type} {ke : α → Value} {P : Program} {K e t : TypeId} {d : TypeDesc} {w w' : World} {mb : Nat} {f : α → Option Value} {k : α} {v z : Value}
theorem putK_self : putK f k v k = some v := by unfold putK; rw [if_pos rfl]
theorem putK_other {x : α} (h : x ≠ k) : putK f k v x = f x := by unfold putK; rw [if_neg h]
theorem delK_self : delK f k k = none := by unfold delK; rw [if_pos rfl]
theorem delK_other {x : α} (h : x ≠ k) : delK f k x = f x := by unfold delK; rw [if_neg h]
theorem MapIs.lt (h : MapIs ke w mb f) : mb < w.heap.size := by
  obtain ⟨es, c, hm, _⟩ := h
  exact blk_lt hm
theorem MapIs.same (h : MapIs ke w mb f) (hb : w'.heap[mb]? = w.heap[mb]?) : MapIs ke w' mb f := by
  obtain ⟨es, c, hm, r⟩ := h
  exact ⟨es, c, by rw [hb]; exact hm, r⟩
theorem MapIs.fr {S : Nat → Prop} (h : MapIs ke w mb f) (hf : Fr S w w') (hs : ¬ S mb) : MapIs ke w' mb f := h.same (hf.block mb h.lt hs)
theorem MapIs.new (ke : α → Value) (w : World) (b : Nat) (hb : w.heap[b]? = some (.map #[] 0)) : MapIs ke w b fun _ => none :=
  ⟨#[], 0, hb, MapKept.stamped_empty 0, fun e he => by simp at he, fun k v h => by cases h⟩
theorem find_in (L : KL P K d ke) {es : List MapEntry} (h1 : ∀ e ∈ es, ∃ k, e.key = ke k ∧ f k = some e.val) (h2 : ∀ k v, f k = some v → ∃ e ∈ es, e.key = ke k ∧ e.val = v) (k : α) :
    (f k = none ∧ (∀ w, (Instr.findKey K (ke k) es).run P w = .ok none w) ∧ ∀ x ∈ es, x.key ≠ ke k) ∨ ∃ (j : Nat) (x : MapEntry), f k = some x.val ∧ (∀ w, (Instr.findKey K (ke k) es).run P w = .ok (some (j, x.val)) w) ∧ es[j]? = some x ∧ x.key = ke k := by
  rcases MapKept.findNow_spec (L.isKey k) es 0 (fun x hx => by obtain ⟨k', hk, _⟩ := h1 x hx; rw [hk]; exact L.isKey k') with ⟨a, b⟩ | ⟨j, x, a, b, c⟩
  · refine .inl ⟨?_, fun w => MapKept.run_findKey L.und a, b⟩
    cases hk : f k with
    | none => rfl
    | some v =>
      obtain ⟨x, hx, hkx, _⟩ := h2 k v hk
      exact absurd hkx (b x hx)
  · refine .inr ⟨j, x, ?_, fun w => ?_, b, c⟩
    · obtain ⟨k', hk, hf⟩ := h1 x (List.mem_of_getElem? b)
      rw [c] at hk
      rw [L.inj _ _ hk]; exact hf
    · have := MapKept.run_findKey (w := w) L.und a
      rw [Nat.zero_add] at this
      exact this
theorem check_in (L : KL P K d ke) (k : α) (em : Bool) (w : World) : (Instr.checkKey em 10000 K (ke k)).run P w = .ok () w := MapKept.run_checkKey L.und (L.isKey k) em 9999
theorem MapIs.look2 (h : MapIs ke w mb f) (L : KL P K d ke) (ht : P.underlying t = some (.map K e)) (hz : ∀ w, (zeroValue e).run P w = .ok z w) (k : α) :
    (Instr.lookup t (.map (some mb)) (ke k) true).run P w = .ok (.tuple #[(f k).getD z, .bool (f k).isSome]) w := by
  obtain ⟨es, c, hm, _, h1, h2⟩ := h
  have ho : (getObj mb).run P w = .ok (.map es c) w := MapKept.run_getObj_map hm
  unfold Instr.lookup
  rcases find_in L h1 h2 k with ⟨a, b, _⟩ | ⟨j, x, a, b, _, _⟩
  · simp [run_underlying ht, ho, check_in L, a, b, hz, Result.andThen]
  · simp [run_underlying ht, ho, check_in L, a, b, Result.andThen]
theorem MapIs.look1 (h : MapIs ke w mb f) (L : KL P K d ke) (ht : P.underlying t = some (.map K e)) (hz : ∀ w, (zeroValue e).run P w = .ok z w) (k : α) :
    (Instr.lookup t (.map (some mb)) (ke k) false).run P w = .ok ((f k).getD z) w := by
  obtain ⟨es, c, hm, _, h1, h2⟩ := h
  have ho : (getObj mb).run P w = .ok (.map es c) w := MapKept.run_getObj_map hm
  unfold Instr.lookup
  rcases find_in L h1 h2 k with ⟨a, b, _⟩ | ⟨j, x, a, b, _, _⟩
  · simp [run_underlying ht, ho, check_in L, a, b, hz, Result.andThen]
  · simp [run_underlying ht, ho, check_in L, a, b, Result.andThen]
theorem ents_push {es : Array MapEntry} {clock : Nat} (hs : MapKept.Stamped es clock) (hno : ∀ x ∈ es.toList, x.key ≠ ke k) (h1 : ∀ e ∈ es.toList, ∃ k, e.key = ke k ∧ f k = some e.val) (h2 : ∀ k v, f k = some v → ∃ e ∈ es.toList, e.key = ke k ∧ e.val = v) (hb : w.heap[mb]? = some (.map (es.push { key := ke k, val := v, born := clock }) (clock + 1))) :
    MapIs ke w mb (putK f k v) := by
  refine ⟨_, _, hb, MapKept.stamped_push hs hno, fun x hx => ?_, fun k' v' hk' => ?_⟩
  · rw [Array.toList_push, List.mem_append, List.mem_singleton] at hx
    rcases hx with hx | rfl
    · obtain ⟨k', a, b⟩ := h1 x hx
      exact ⟨k', a, by rw [putK_other (fun e => hno x hx (by rw [a, e]))]; exact b⟩
    · exact ⟨k, rfl, putK_self⟩
  · by_cases e : k' = k
    · subst e
      rw [putK_self] at hk'
      exact ⟨_, by rw [Array.toList_push, List.mem_append, List.mem_singleton]; exact .inr rfl, rfl, Option.some.inj hk'⟩
    · rw [putK_other e] at hk'
      obtain ⟨x, hx, a, b⟩ := h2 k' v' hk'
      exact ⟨x, by rw [Array.toList_push, List.mem_append]; exact .inl hx, a, b⟩
theorem mem_modify {es : Array MapEntry} {j : Nat} {g : MapEntry → MapEntry} {x : MapEntry} : x ∈ (es.modify j g).toList ↔ ∃ (i : Nat) (y : MapEntry), es[i]? = some y ∧ x = if j = i then g y else y := by
  rw [List.mem_iff_getElem?]
  constructor
  · rintro ⟨i, hi⟩
    rw [Array.getElem?_toList, Array.getElem?_modify] at hi
    by_cases hj : j = i
    · rw [if_pos hj] at hi
      obtain ⟨y, hy, rfl⟩ := Option.map_eq_some_iff.1 hi
      exact ⟨i, y, hy, by rw [if_pos hj]⟩
    · rw [if_neg hj] at hi
      exact ⟨i, x, hi, by rw [if_neg hj]⟩
  · rintro ⟨i, y, hy, rfl⟩
    refine ⟨i, ?_⟩
    rw [Array.getElem?_toList, Array.getElem?_modify]
    by_cases hj : j = i
    · rw [if_pos hj, if_pos hj, hy]; rfl
    · rw [if_neg hj, if_neg hj, hy]
theorem ents_set {es : Array MapEntry} {clock j : Nat} {x : MapEntry} {g : MapEntry → MapEntry} (L : KL P K d ke) (hs : MapKept.Stamped es clock) (hj : es[j]? = some x) (hx : x.key = ke k) (h1 : ∀ e ∈ es.toList, ∃ k, e.key = ke k ∧ f k = some e.val) (h2 : ∀ k v, f k = some v → ∃ e ∈ es.toList, e.key = ke k ∧ e.val = v)
    (hg1 : ∀ y, (g y).born = y.born) (hg2 : (g x).key = x.key) (hg3 : (g x).val = v) (hb : w.heap[mb]? = some (.map (es.modify j g) clock)) :
    MapIs ke w mb (putK f k v) := by
  have hone : ∀ (i : Nat) (y : MapEntry), es[i]? = some y → y.key = ke k → i = j := fun i y hi hy => by
    have e1 : (es.toList.map (·.key))[i]? = some (ke k) := by rw [List.getElem?_map, Array.getElem?_toList, hi]; simp [hy]
    have e2 : (es.toList.map (·.key))[j]? = some (ke k) := by rw [List.getElem?_map, Array.getElem?_toList, hj]; simp [hx]
    exact (List.getElem?_inj (List.getElem?_eq_some_iff.1 e1).1 hs.2.2).1 (e1.trans e2.symm)
  refine ⟨_, _, hb, MapKept.stamped_modify hs j g (fun e _ => hg1 e) (fun e _ he => by rw [hj] at he; obtain rfl := Option.some.inj he; exact hg2), fun y hy => ?_, fun k' v' hk' => ?_⟩
  · obtain ⟨i, y', hi, rfl⟩ := mem_modify.1 hy
    by_cases hij : j = i
    · rw [if_pos hij]
      subst hij
      rw [hj] at hi
      obtain rfl := Option.some.inj hi
      exact ⟨k, by rw [hg2, hx], by rw [putK_self, hg3]⟩
    · rw [if_neg hij]
      obtain ⟨k', a, b⟩ := h1 y' (Array.mem_toList_iff.2 (Array.mem_of_getElem? hi))
      exact ⟨k', a, by rw [putK_other (fun e => hij (hone i y' hi (by rw [a, e])).symm)]; exact b⟩
  · by_cases e : k' = k
    · subst e
      rw [putK_self] at hk'
      exact ⟨g x, mem_modify.2 ⟨j, x, hj, by rw [if_pos rfl]⟩, by rw [hg2, hx], by rw [hg3]; exact Option.some.inj hk'⟩
    · rw [putK_other e] at hk'
      obtain ⟨y, hy, a, b⟩ := h2 k' v' hk'
      obtain ⟨i, hi⟩ := List.mem_iff_getElem?.1 hy
      rw [Array.getElem?_toList] at hi
      refine ⟨y, mem_modify.2 ⟨i, y, hi, ?_⟩, a, b⟩
      rw [if_neg (fun hij => e (L.inj _ _ ?_))]
      subst hij
      rw [hj] at hi
      obtain rfl := Option.some.inj hi
      rw [← a, hx]
theorem entry_stays (L : KL P K d ke) {x : Value} (hx : x = ke k) (w : World) : (Instr.keyThatStays x (ke k)).run P w = .ok (ke k) w := by
  rw [hx]; exact MapKept.run_keyThatStays (L.isKey k)
theorem MapIs.put (h : MapIs ke w mb f) (L : KL P K d ke) (ht : P.underlying t = some (.map K e)) (k : α) (v : Value) :
    ∃ w', (Instr.mapUpdate t (.map (some mb)) (ke k) v).run P w = .ok () w' ∧ MapIs ke w' mb (putK f k v) ∧ Fr (fun x => x = mb) w w' := by
  obtain ⟨es, c, hm, hs, h1, h2⟩ := h
  rcases find_in L h1 h2 k with ⟨a, b, hno⟩ | ⟨j, x, a, b, hj, hx⟩
  · refine ⟨setB w mb (.map (es.push { key := ke k, val := v, born := c }) (c + 1)), ?_, ents_push hs hno h1 h2 (setB_at (blk_lt hm)), Fr.setB _ _ _⟩
    simp [Instr.mapUpdate, run_underlying ht, MapKept.run_getObj_map hm, check_in L, b, MapKept.run_setObj_map _ hm, Result.andThen, setB]
  · rw [Array.getElem?_toList] at hj
    refine ⟨setB w mb (.map (es.modify j fun y => { y with key := ke k, val := v }) c), ?_, ents_set (g := fun y => { y with key := ke k, val := v }) L hs hj hx h1 h2 (fun _ => rfl) hx.symm rfl (setB_at (blk_lt hm)), Fr.setB _ _ _⟩
    simp [Instr.mapUpdate, run_underlying ht, MapKept.run_getObj_map hm, check_in L, b, hj, entry_stays L hx, MapKept.run_setObj_map _ hm, Result.andThen, setB]
theorem MapIs.del (h : MapIs ke w mb f) (L : KL P K d ke) (ht : P.underlying t = some (.map K e)) (k : α) :
    ∃ w', (∀ ty, (Builtin.delete_ #[t, K] ty #[.map (some mb), ke k]).run P w = .ok (.tuple #[]) w') ∧ MapIs ke w' mb (delK f k) ∧ Fr (fun x => x = mb) w w' := by
  obtain ⟨es, c, hm, hs, h1, h2⟩ := h
  rcases find_in L h1 h2 k with ⟨a, b, hno⟩ | ⟨j, x, a, b, hj, hx⟩
  · refine ⟨setB w mb (.map es c), fun ty => ?_, ⟨_, _, setB_at (blk_lt hm), hs, fun x hx => ?_, fun k' v' hk' => ?_⟩, Fr.setB _ _ _⟩
    · simp [Builtin.delete_, run_underlying ht, MapKept.run_getObj_map hm, check_in L, b, MapKept.run_setObj_map _ hm, Result.andThen, setB]
    · obtain ⟨k', e1, e2⟩ := h1 x hx
      exact ⟨k', e1, by rw [delK_other (fun e => hno x hx (by rw [e1, e]))]; exact e2⟩
    · by_cases e : k' = k
      · rw [e, delK_self] at hk'; cases hk'
      · rw [delK_other e] at hk'; exact h2 k' v' hk'
  · have hes : (es.eraseIdxIfInBounds j).toList = es.toList.eraseIdx j := by
      unfold Array.eraseIdxIfInBounds
      split
      · simp
      · rename_i hj'; rw [List.eraseIdx_of_length_le (by simpa using hj')]
    have hmem : ∀ y, y ∈ (es.eraseIdxIfInBounds j).toList ↔ y ∈ es.toList ∧ y.key ≠ ke k := fun y => by
      have hjl := (List.getElem?_eq_some_iff.1 hj).1
      rw [hes, List.mem_eraseIdx_iff_getElem?]
      constructor
      · rintro ⟨i, hi, hy⟩
        refine ⟨List.mem_of_getElem? hy, fun hk => hi ?_⟩
        have e1 : (es.toList.map (·.key))[i]? = some (ke k) := by rw [List.getElem?_map, hy]; simp [hk]
        have e2 : (es.toList.map (·.key))[j]? = some (ke k) := by rw [List.getElem?_map, hj]; simp [hx]
        exact (List.getElem?_inj (List.getElem?_eq_some_iff.1 e1).1 hs.2.2).1 (e1.trans e2.symm)
      · rintro ⟨hy, hk⟩
        obtain ⟨i, hi⟩ := List.mem_iff_getElem?.1 hy
        refine ⟨i, fun e => hk ?_, hi⟩
        subst e
        rw [hj] at hi
        obtain rfl := Option.some.inj hi
        exact hx
    refine ⟨setB w mb (.map (es.eraseIdxIfInBounds j) c), fun ty => ?_, ⟨_, _, setB_at (blk_lt hm), MapKept.stamped_erase hs j, fun y hy => ?_, fun k' v' hk' => ?_⟩, Fr.setB _ _ _⟩
    · simp [Builtin.delete_, run_underlying ht, MapKept.run_getObj_map hm, check_in L, b, MapKept.run_setObj_map _ hm, Result.andThen, setB]
    · obtain ⟨hy1, hy2⟩ := (hmem y).1 hy
      obtain ⟨k', e1, e2⟩ := h1 y hy1
      exact ⟨k', e1, by rw [delK_other (fun e => hy2 (by rw [e1, e]))]; exact e2⟩
    · by_cases e : k' = k
      · rw [e, delK_self] at hk'; cases hk'
      · rw [delK_other e] at hk'
        obtain ⟨y, hy, e1, e2⟩ := h2 k' v' hk'
        exact ⟨y, (hmem y).2 ⟨hy, by rw [e1]; exact fun e' => e (L.inj _ _ e')⟩, e1, e2⟩
/-- How many entries: as many as a row of unlike keys that are just its keys. -/
theorem MapIs.count (h : MapIs ke w mb f) (L : KL P K d ke) {l : List α} (hn : l.Nodup) (hl : ∀ k, k ∈ l ↔ (f k).isSome = true) : ∃ es clock, w.heap[mb]? = some (.map es clock) ∧ es.size = l.length := by
  obtain ⟨es, c, hm, hs, h1, h2⟩ := h
  refine ⟨es, c, hm, ?_⟩
  have hp : (es.toList.map (·.key)).Perm (l.map ke) := (List.perm_ext_iff_of_nodup hs.2.2 (List.Pairwise.map ke (fun a b hab he => hab (L.inj _ _ he)) hn)).2 fun x => by
    rw [List.mem_map, List.mem_map]
    constructor
    · rintro ⟨y, hy, rfl⟩
      obtain ⟨k, a, b⟩ := h1 y hy
      exact ⟨k, (hl k).2 (by rw [b]; rfl), a.symm⟩
    · rintro ⟨k, hk, rfl⟩
      obtain ⟨v, hv⟩ := Option.isSome_iff_exists.1 ((hl k).1 hk)
      obtain ⟨y, hy, a, _⟩ := h2 k v hv
      exact ⟨y, hy, a⟩
  have := hp.length_eq
  rw [List.length_map, List.length_map, Array.length_toList] at this
  exact this
theorem MapIs.len (h : MapIs ke w mb f) (L : KL P K d ke) (ht : P.underlying t = some (.map K e)) {l : List α} (hn : l.Nodup) (hl : ∀ k, k ∈ l ↔ (f k).isSome = true) (ty : TypeId) :
    (Builtin.len_ #[t] ty #[.map (some mb)]).run P w = .ok (.int .i64 l.length) w := by
  obtain ⟨es, c, hm, he⟩ := h.count L hn hl
  simp [Builtin.len_, run_underlying ht, MapKept.run_getObj_map hm, goInt, he]
/-- m[k] op= ..: the entry is made, or is there; then its value is laid. -/
theorem MapIs.bump (h : MapIs ke w mb f) (L : KL P K d ke) (ht : P.underlying t = some (.map K e)) (hz : ∀ w, (zeroValue e).run P w = .ok z w) (k : α) :
    ∃ (w1 : World) (st : Nat), (Instr.mapEntry t (.map (some mb)) (ke k)).run P w = .ok (.tuple #[(f k).getD z, .int .i64 st]) w1 ∧ MapIs ke w1 mb (putK f k ((f k).getD z)) ∧ Fr (fun x => x = mb) w w1 ∧
      ∀ v, ∃ w2, (Instr.entryStore t (.map (some mb)) (.int .i64 st) v).run P w1 = .ok () w2 ∧ MapIs ke w2 mb (putK f k v) ∧ Fr (fun x => x = mb) w w2 := by
  obtain ⟨es, c, hm, hs, h1, h2⟩ := h
  have hst : ∀ {es : Array MapEntry} {c j : Nat} {x : MapEntry} {w : World}, w.heap[mb]? = some (.map es c) → (es.toList.map (·.born)).Nodup → es[j]? = some x → ∀ v, (Instr.entryStore t (.map (some mb)) (.int .i64 x.born) v).run P w = .ok () (setB w mb (.map (es.modify j fun e => { e with val := v }) c)) := by
    intro es c j x w hm hn hj v
    have hjl : j < es.size := (Array.getElem?_eq_some_iff.1 hj).1
    have hxe : es[j] = x := (Array.getElem?_eq_some_iff.1 hj).2
    have hfi : es.findIdx? (fun e => (e.born : Int) == (x.born : Int)) = some j := by
      rw [Array.findIdx?_eq_some_iff_getElem]
      refine ⟨hjl, by rw [hxe]; simp, fun i hi => ?_⟩
      rw [Bool.not_eq_true, beq_eq_false_iff_ne]
      intro e
      have e' : es[i].born = x.born := by omega
      have h1 : (es.toList.map (·.born))[i]? = some x.born := by rw [List.getElem?_map, Array.getElem?_toList, Array.getElem?_eq_getElem (by omega)]; simp [e']
      have h2 : (es.toList.map (·.born))[j]? = some x.born := by rw [List.getElem?_map, Array.getElem?_toList, hj]; rfl
      have := (List.getElem?_inj (by simp; omega) hn).1 (h1.trans h2.symm)
      omega
    have ha : ∀ w, (asInt (.int .i64 (x.born : Int))).run P w = .ok (x.born : Int) w := fun _ => rfl
    simp [Instr.entryStore, MapKept.run_getObj_map hm, ha, hfi, MapKept.run_setObj_map _ hm, Result.andThen, setB]
  rcases find_in L h1 h2 k with ⟨a, b, hno⟩ | ⟨j, x, a, b, hj, hx⟩
  · have hb1 : (setB w mb (.map (es.push { key := ke k, val := z, born := c }) (c + 1))).heap[mb]? = some (.map (es.push { key := ke k, val := z, born := c }) (c + 1)) := setB_at (blk_lt hm)
    have hsp := MapKept.stamped_push (val := z) hs hno
    have hlast : (es.push { key := ke k, val := z, born := c })[es.size]? = some { key := ke k, val := z, born := c } := by simp
    have hmd : ∀ v, (es.push { key := ke k, val := z, born := c }).modify es.size (fun e => { e with val := v }) = es.push { key := ke k, val := v, born := c } := fun v => by
      apply Array.ext_getElem?
      intro i
      rw [Array.getElem?_modify, Array.getElem?_push, Array.getElem?_push]
      by_cases hi : i = es.size
      · subst hi; simp
      · rw [if_neg (fun e => hi e.symm), if_neg hi, if_neg hi]
    refine ⟨_, c, ?_, by rw [a]; exact ents_push hs hno h1 h2 hb1, Fr.setB _ _ _, fun v => ⟨_, hst hb1 hsp.2.1 hlast v, ?_, (Fr.setB _ _ _).trans (Fr.setB _ _ _)⟩⟩
    · simp [Instr.mapEntry, run_underlying ht, MapKept.run_getObj_map hm, check_in L, b, hz, MapKept.run_setObj_map _ hm, Result.andThen, setB, goInt, a]
    · rw [hmd]
      exact ents_push hs hno h1 h2 (setB_at (blk_lt hb1))
  · rw [Array.getElem?_toList] at hj
    have hsame : es.modify j (fun y => { y with key := ke k }) = es := by
      apply Array.ext_getElem?
      intro i
      rw [Array.getElem?_modify]
      by_cases hij : j = i
      · subst hij
        rw [if_pos rfl, hj]
        show some { x with key := ke k } = some x
        rw [← hx]
      · rw [if_neg hij]
    have hb1 : (setB w mb (.map es c)).heap[mb]? = some (.map es c) := setB_at (blk_lt hm)
    refine ⟨setB w mb (.map es c), x.born, ?_, ?_, Fr.setB _ _ _, fun v => ⟨_, hst hb1 hs.2.1 hj v, ents_set (g := fun y => { y with val := v }) L hs hj hx h1 h2 (fun _ => rfl) rfl rfl (setB_at (blk_lt hb1)), (Fr.setB _ _ _).trans (Fr.setB _ _ _)⟩⟩
    · simp [Instr.mapEntry, run_underlying ht, MapKept.run_getObj_map hm, check_in L, b, hj, entry_stays L hx, hsame, MapKept.run_setObj_map _ hm, Result.andThen, setB, goInt, a]
    · have : putK f k ((f k).getD z) = f := by
        funext y
        by_cases e : y = k
        · rw [e, putK_self, a]; rfl
        · rw [putK_other e]
      rw [this]
      exact ⟨es, c, hb1, hs, h1, h2⟩
end
/-! ### keys that are ints -/
section
variable {P : Program} {K e t : TypeId} {w : World} {mb : Nat} {f : Int → Option Value}
theorem kl_int (hK : P.underlying K = some (.int .i64)) : KL P K (.int .i64) (Value.int .i64) := ⟨hK, fun _ => rfl, fun a b h => by injection h⟩
theorem kl_str (hK : P.underlying K = some .string) : KL P K .string Value.string := ⟨hK, fun _ => trivial, fun a b h => by injection h⟩
/-- In the library's words (the values are read as nothing). -/
theorem MapIs.owns (h : MapIs (Value.int .i64) w mb f) (hK : P.underlying K = some (.int .i64)) (ht : P.underlying t = some (.map K e)) {z : Value} (hz : ∀ w, (zeroValue e).run P w = .ok z w) (hw : ∀ k, (f k).isSome = true → -9223372036854775808 ≤ k ∧ k ≤ 9223372036854775807) {l : List Int} (hn : l.Nodup) (hl : ∀ k, k ∈ l ↔ (f k).isSome = true) (hmax : l.length ≤ maxLen) :
    ∃ D0 : DataW Unit, w.ownsMap P K (fun _ => some (.nil, [])) mb l.length D0 ∧ l.Perm (intKeys D0) ∧ Maps.size D0 ≤ l.length := by
  obtain ⟨es, c, hm, hsz⟩ := h.count (kl_int hK) hn hl
  have h' := h
  obtain ⟨es', c', hm', hs, h1, h2⟩ := h
  rw [hm] at hm'
  injection hm' with hm'
  injection hm' with e1 e2
  subst e1; subst e2
  have hkey : ∀ k, (f k).isSome = true → keyOf P K (.int .i64 k) = some (.int .i64 k) := fun k hk => by
    obtain ⟨a, b⟩ := hw k hk
    have hwf : (Lit.int .i64 k).wf = true := by
      show (decide _ && decide _) = true
      rw [Bool.and_eq_true, decide_eq_true_eq, decide_eq_true_eq]
      exact ⟨a, b⟩
    simp [keyOf, hK, mapKey, hwf]
  have hown : w.ownsMap P K (fun _ => some ((DataW.nil : DataW Unit), [])) mb l.length (.map ((es.toList.map (WideElems.rg P K (fun _ => some (.nil, [])))).foldr DataW.insert [])) :=
    ⟨es, c, hm, ⟨by omega, hs, fun x hx => by
      obtain ⟨k, a, b⟩ := h1 x hx
      exact ⟨(.int .i64 k, .nil), by unfold WideElems.rd; rw [a, hkey k (by rw [b]; rfl)]; rfl⟩⟩, by omega, rfl⟩
  generalize (DataW.map ((es.toList.map (WideElems.rg P K (fun _ => some ((DataW.nil : DataW Unit), [])))).foldr DataW.insert [])) = D0 at hown
  have KI := Maps.int_keyed (P := P) hK
  have hhas : ∀ x, x ∈ l ↔ (Maps.has D0 (.int .i64 x) = true ∧ (fun _ => false : Lit → Bool) (.int .i64 x) = false) := fun x => by
    rw [hl]
    refine ⟨fun hx => ⟨?_, rfl⟩, fun ⟨hx, _⟩ => ?_⟩
    · obtain ⟨v, ps, hr, _⟩ := hown.look_ok (t := t) KI ht (hz w) rfl (hkey x hx)
      have := h'.look2 (kl_int hK) ht hz x
      rw [hr] at this
      simp at this
      rw [this.2, hx]
    · obtain ⟨xs, hD, hko⟩ := hown.keysOf
      have hx' := hx
      rw [hD, Maps.has_eq, List.any_eq_true] at hx
      obtain ⟨p, hp, hs⟩ := hx
      obtain ⟨v, hv⟩ := hko p hp
      obtain ⟨y, hy1, hy2, hy3⟩ := Maps.keyOf_i64 hK hv
      rw [hy2] at hs hv
      obtain rfl : y = x := by simpa [Lit.sameKey] using hs
      subst hy1
      obtain ⟨v, ps, hr, _⟩ := hown.look_ok (t := t) KI ht (hz w) rfl hv
      have := h'.look2 (kl_int hK) ht hz y
      rw [hr] at this
      simp at this
      rw [← this.2, hx']
  exact ⟨D0, hown, CollectedI.perm ⟨hn, hhas⟩ hown KI hK (fun _ => rfl), hown.size_le⟩
end
end Go.Proofs.YtoofcnehoffllaaGreat
