/- A law's own map with cache.Key keys, as a function; bytes turned to a text. -/
import Derived.Test.YtjldocpjoiibjaaC38
namespace Go.Proofs.Ytjldocpjoiibjaa
open Go.RowKit

/-- The map in block mb is the function f. -/
def Mp (w : World) (mb : Nat) (f : Int × Int → Option Value) : Prop := ∃ E, Ents w mb E ∧ (E.map (·.1)).Nodup ∧ ∀ k v, (k, v) ∈ E ↔ f k = some v
def putF (f : Int × Int → Option Value) (k : Int × Int) (v : Value) : Int × Int → Option Value := fun x => if x = k then some v else f x
def delF (f : Int × Int → Option Value) (k : Int × Int) : Int × Int → Option Value := fun x => if x = k then none else f x
section
variable {w w' : World} {mb : Nat} {f : Int × Int → Option Value} {k : Int × Int} {v z : Value} {t e : TypeId}
theorem Mp.lt (h : Mp w mb f) : mb < w.heap.size := by
  obtain ⟨E, ⟨es, c, hm, _⟩, _⟩ := h
  exact blk_lt hm
theorem Mp.same (h : Mp w mb f) (hb : w'.heap[mb]? = w.heap[mb]?) : Mp w' mb f := by
  obtain ⟨E, ⟨es, c, hm, he⟩, h2⟩ := h
  exact ⟨E, ⟨es, c, by rw [hb]; exact hm, he⟩, h2⟩
theorem Mp.fr {S : Nat → Prop} (h : Mp w mb f) (hf : Fr S w w') (hs : ¬ S mb) : Mp w' mb f := h.same (hf.block mb h.lt hs)
theorem Mp.new (w : World) (b : Nat) (hb : w.heap[b]? = some (.map #[] 0)) : Mp w b fun _ => none :=
  ⟨[], ⟨#[], 0, hb, rfl⟩, List.nodup_nil, fun k v => by simp⟩
theorem mem_keys {E : List ((Int × Int) × Value)} (h : ∀ k v, (k, v) ∈ E ↔ f k = some v) : k ∈ E.map (·.1) ↔ (f k).isSome = true := by
  constructor
  · intro hk
    obtain ⟨⟨k', v⟩, hm, rfl⟩ := List.mem_map.1 hk
    rw [(h _ _).1 hm]; rfl
  · intro hk
    obtain ⟨v, hv⟩ := Option.isSome_iff_exists.1 hk
    exact List.mem_map.2 ⟨(k, v), (h _ _).2 hv, rfl⟩
theorem Mp.find {E : List ((Int × Int) × Value)} (h2 : (E.map (·.1)).Nodup) (h3 : ∀ k v, (k, v) ∈ E ↔ f k = some v) (k : Int × Int) : (findE k E 0).map (·.2) = f k ∧ (findE k E 0).isSome = (f k).isSome := by
  cases hk : f k with
  | none =>
    have : k ∉ E.map (·.1) := fun hx => by have := (mem_keys h3).1 hx; rw [hk] at this; cases this
    rw [findE_none this]; exact ⟨rfl, rfl⟩
  | some v =>
    obtain ⟨j, h, _⟩ := findE_some (i := 0) h2 ((h3 k v).2 hk)
    rw [h]; exact ⟨rfl, rfl⟩
theorem Mp.look2 (h : Mp w mb f) (ht : Try.prog.underlying t = some (.map 29 e)) (hz : (zeroValue e).run Try.prog w = .ok z w) (k : Int × Int) :
    (Instr.lookup t (.map (some mb)) (keyV k) true).run Try.prog w = .ok (.tuple #[(f k).getD z, .bool (f k).isSome]) w := by
  obtain ⟨E, h1, h2, h3⟩ := h
  have := run_lookup_ents ht hz h1 k true
  obtain ⟨a, b⟩ := Mp.find h2 h3 k
  rw [a, b] at this
  exact this
theorem Mp.look1 (h : Mp w mb f) (ht : Try.prog.underlying t = some (.map 29 e)) (hz : (zeroValue e).run Try.prog w = .ok z w) (k : Int × Int) :
    (Instr.lookup t (.map (some mb)) (keyV k) false).run Try.prog w = .ok ((f k).getD z) w := by
  obtain ⟨E, h1, h2, h3⟩ := h
  have := run_lookup_ents ht hz h1 k false
  rw [(Mp.find h2 h3 k).1] at this
  exact this
theorem set_ents {E : List ((Int × Int) × Value)} : ∀ (j : Nat) (x : (Int × Int) × Value), E[j]? = some x → (E.map (·.1)).Nodup → ((E.set j (x.1, v)).map (·.1)) = E.map (·.1) ∧ ∀ k' v', (k', v') ∈ E.set j (x.1, v) ↔ (k' = x.1 ∧ v' = v) ∨ (k' ≠ x.1 ∧ (k', v') ∈ E) := by
  intro j x hj hn
  have hjl := (List.getElem?_eq_some_iff.1 hj).1
  have h1 : (E.set j (x.1, v)).map (·.1) = E.map (·.1) := map_set_same (·.1) E j x (x.1, v) hj rfl
  refine ⟨h1, fun k' v' => ⟨fun hm => ?_, fun hm => ?_⟩⟩
  · obtain ⟨i, hi⟩ := List.mem_iff_getElem?.1 hm
    rw [List.getElem?_set] at hi
    split at hi
    · rename_i e
      first | rw [if_pos hjl] at hi | skip
      obtain ⟨e1, e2⟩ := Prod.mk.inj (Option.some.inj hi)
      exact .inl ⟨e1.symm, e2.symm⟩
    · rename_i e
      refine .inr ⟨fun hk => e ?_, List.mem_of_getElem? hi⟩
      have e1 : (E.map (·.1))[j]? = some x.1 := by rw [List.getElem?_map, hj]; rfl
      have e2 : (E.map (·.1))[i]? = some x.1 := by rw [List.getElem?_map, hi, ← hk]; rfl
      exact (List.getElem?_inj (by simpa using hjl) hn).1 (e1.trans e2.symm)
  · rcases hm with ⟨rfl, rfl⟩ | ⟨hk, hm⟩
    · exact List.mem_iff_getElem?.2 ⟨j, by rw [List.getElem?_set, if_pos rfl, if_pos hjl]⟩
    · obtain ⟨i, hi⟩ := List.mem_iff_getElem?.1 hm
      refine List.mem_iff_getElem?.2 ⟨i, ?_⟩
      rw [List.getElem?_set, if_neg]
      · exact hi
      · intro e
        subst e
        rw [hj] at hi
        exact hk (by rw [Option.some.inj hi])
theorem run_stays (k : Int × Int) (w : World) : (Instr.keyThatStays (keyV k) (keyV k)).run Try.prog w = .ok (keyV k) w := by
  have : Instr.sameBits (9998 + 1 + 1) (keyV k) (keyV k) = true := by
    unfold keyV
    simp [Instr.sameBits]
  unfold Instr.keyThatStays
  rw [if_pos this]; rfl
theorem Mp.put (h : Mp w mb f) (ht : Try.prog.underlying t = some (.map 29 e)) (k : Int × Int) (v : Value) :
    ∃ o, (Instr.mapUpdate t (.map (some mb)) (keyV k) v).run Try.prog w = .ok () (setB w mb o) ∧ Mp (setB w mb o) mb (putF f k v) := by
  obtain ⟨E, h1, h2, h3⟩ := h
  cases hk : f k with
  | none =>
    have hno : k ∉ E.map (·.1) := fun hx => by have := (mem_keys h3).1 hx; rw [hk] at this; cases this
    obtain ⟨o, hr, he⟩ := run_update_ents ht h1 hno v
    refine ⟨o, hr, _, he, ?_, fun k' v' => ?_⟩
    · rw [List.map_append, List.nodup_append]
      refine ⟨h2, by simp, fun a ha b hb => ?_⟩
      simp at hb
      subst hb
      exact fun e => hno (by rw [← e]; exact ha)
    · unfold putF
      rw [List.mem_append, List.mem_singleton]
      constructor
      · rintro (hm | hm)
        · rw [if_neg (fun e => hno (by rw [← e]; exact List.mem_map.2 ⟨_, hm, rfl⟩))]
          exact (h3 _ _).1 hm
        · obtain ⟨rfl, rfl⟩ := Prod.mk.inj hm
          rw [if_pos rfl]
      · intro hm
        split at hm
        · rename_i e
          rw [e, Option.some.inj hm]; exact .inr rfl
        · exact .inl ((h3 _ _).2 hm)
  | some u =>
    obtain ⟨es, clock, hm, he⟩ := h1
    have hf := run_find k w es.toList E he
    obtain ⟨j, g1, g2⟩ := findE_some (i := 0) h2 ((h3 k u).2 hk)
    rw [g1, Nat.zero_add] at hf
    have hjl : j < es.size := by
      have hl : es.toList.length = E.length := by have := congrArg List.length he; simpa using this
      have := (List.getElem?_eq_some_iff.1 g2).1
      rw [← hl] at this; simpa using this
    obtain ⟨s1, s2⟩ := set_ents (v := v) j _ g2 h2
    have hej : (es.toList.map (fun e => (e.key, e.val)))[j]? = (E.map fun x => (keyV x.1, x.2))[j]? := by rw [he]
    rw [List.getElem?_map, List.getElem?_map, g2, Array.getElem?_toList, Array.getElem?_eq_getElem hjl] at hej
    obtain ⟨k1, k2⟩ := Prod.mk.inj (Option.some.inj hej)
    have hent : es[j]? = some es[j] := Array.getElem?_eq_getElem hjl
    refine ⟨.map (es.modify j fun x => { x with key := keyV k, val := v }) clock, ?_, ⟨E.set j (k, v), ⟨_, _, setB_at (blk_lt hm), ?_⟩, by rw [s1]; exact h2, fun k' v' => ?_⟩⟩
    · simp [Instr.mapUpdate, run_underlying ht, MapKept.run_getObj_map hm, run_check, hf, hent, k1, run_stays, MapKept.run_setObj_map _ hm, Result.andThen, setB]
    · apply List.ext_getElem?
      intro i
      have hei : (es.toList.map (fun e => (e.key, e.val)))[i]? = (E.map fun x => (keyV x.1, x.2))[i]? := by rw [he]
      rw [List.getElem?_map, List.getElem?_map, Array.getElem?_toList] at hei
      rw [List.getElem?_map, List.getElem?_map, Array.getElem?_toList, Array.getElem?_modify, List.getElem?_set]
      by_cases hij : j = i
      · subst hij
        rw [if_pos rfl, if_pos rfl, if_pos (List.getElem?_eq_some_iff.1 g2).1, hent]; rfl
      · rw [if_neg hij, if_neg hij]; exact hei
    · rw [s2]
      unfold putF
      constructor
      · rintro (⟨rfl, rfl⟩ | ⟨hne, hmm⟩)
        · rw [if_pos rfl]
        · rw [if_neg hne]; exact (h3 _ _).1 hmm
      · intro hmm
        split at hmm
        · rename_i e
          exact .inl ⟨e, (Option.some.inj hmm).symm⟩
        · rename_i e
          exact .inr ⟨e, (h3 _ _).2 hmm⟩
theorem run_delete_none {E : List ((Int × Int) × Value)} (ht : Try.prog.underlying t = some (.map 29 e)) (h : Ents w mb E) (hk : k ∉ E.map (·.1)) :
    ∃ o, (∀ ty, (Builtin.delete_ #[t, 29] ty #[.map (some mb), keyV k]).run Try.prog w = .ok (.tuple #[]) (setB w mb o)) ∧ Ents (setB w mb o) mb E := by
  obtain ⟨es, clock, hm, he⟩ := h
  have hf := run_find k w es.toList E he
  rw [findE_none hk] at hf
  refine ⟨.map es clock, fun ty => ?_, _, _, setB_at (blk_lt hm), he⟩
  simp [Builtin.delete_, run_underlying ht, MapKept.run_getObj_map hm, run_check, hf, MapKept.run_setObj_map _ hm, Result.andThen, setB]
theorem Mp.del (h : Mp w mb f) (ht : Try.prog.underlying t = some (.map 29 e)) (k : Int × Int) :
    ∃ w', (∀ ty, (Builtin.delete_ #[t, 29] ty #[.map (some mb), keyV k]).run Try.prog w = .ok (.tuple #[]) w') ∧ Mp w' mb (delF f k) ∧ Fr (fun x => x = mb) w w' := by
  obtain ⟨E, h1, h2, h3⟩ := h
  cases hk : f k with
  | none =>
    have hno : k ∉ E.map (·.1) := fun hx => by have := (mem_keys h3).1 hx; rw [hk] at this; cases this
    obtain ⟨o, hr, he⟩ := run_delete_none ht h1 hno
    refine ⟨setB w mb o, hr, ⟨E, he, h2, fun k' v' => ?_⟩, Fr.setB w mb o⟩
    rw [h3]
    unfold delF
    by_cases e : k' = k
    · rw [if_pos e, e, hk]
    · rw [if_neg e]
  | some u =>
    obtain ⟨o, j, hr, hj, he⟩ := run_delete_ents ht h1 h2 ((h3 k u).2 hk)
    have hp := erase_perm E j _ hj
    have hn := (hp.map (·.1)).nodup_iff.2 h2
    rw [List.map_cons, List.nodup_cons] at hn
    refine ⟨setB w mb o, hr, ⟨_, he, hn.2, fun k' v' => ?_⟩, Fr.setB w mb o⟩
    unfold delF
    constructor
    · intro hm
      rw [if_neg (fun e => hn.1 (by rw [← e]; exact List.mem_map.2 ⟨_, hm, rfl⟩))]
      exact (h3 _ _).1 (hp.mem_iff.1 (List.mem_cons_of_mem _ hm))
    · intro hm
      split at hm
      · cases hm
      · rename_i e
        rcases List.mem_cons.1 (hp.mem_iff.2 ((h3 _ _).2 hm)) with hh | hh
        · exact absurd (Prod.mk.inj hh).1 e
        · exact hh
/-- How many entries: as many as a row of unlike keys that are just its keys. -/
theorem Mp.len (h : Mp w mb f) (ht : Try.prog.underlying t = some (.map 29 e)) {K : List (Int × Int)} (hn : K.Nodup) (hK : ∀ k, k ∈ K ↔ (f k).isSome = true) (ty : TypeId) :
    (Builtin.len_ #[t] ty #[.map (some mb)]).run Try.prog w = .ok (.int .i64 K.length) w := by
  obtain ⟨E, h1, h2, h3⟩ := h
  have hp : (E.map (·.1)).Perm K := (List.perm_ext_iff_of_nodup h2 hn).2 fun k => by rw [mem_keys h3, hK]
  have hl := hp.length_eq
  rw [List.length_map] at hl
  rw [← hl]
  exact run_len_ents ht h1 ty
end

/-! ### bytes as a text -/
def numI : Value → Int
  | .int _ z => z
  | _ => 0
def strD (l : List Value) : ByteArray := strOfNums (l.map numI)
def AllB (l : List Value) : Prop := ∀ u ∈ l, ∃ z, u = .int .u8 z
theorem allB_num {l : List Value} (h : AllB l) : (l.map numI).map (Value.int .u8) = l := by
  rw [List.map_map]
  conv => rhs; rw [← List.map_id l]
  refine List.map_congr_left fun u hu => ?_
  obtain ⟨z, rfl⟩ := h u hu
  rfl
theorem conv_row {w : World} {g n : Nat} {l : List Value} (h8 : AllB l) (hl : l.length = n) (h : ∀ j u, l[j]? = some u → w.cell? ⟨g, 0 + j, none⟩ = some u) (c : Nat) :
    (convert 31 9 (.slice (some ⟨g, 0, none⟩) n c)).run Try.prog w = .ok (.string (strD l)) w := by
  have hm := allB_num h8
  have hln : (l.map numI).length = n := by rw [List.length_map, hl]
  have := run_convert_bytes_arg (P := Try.prog) w 31 5 Try.underlying31 Try.underlying5 g 0 (l.map numI).length c (l.map numI) rfl (fun i hi => by
    refine h i _ ?_
    have e : l[i]? = ((l.map numI).map (Value.int .u8))[i]? := by rw [hm]
    rw [e, List.getElem?_map, List.getElem?_eq_getElem hi, List.getD_eq_getElem?_getD, List.getElem?_eq_getElem hi]; rfl) _ Try.underlying9
  rw [hln] at this
  exact this
theorem opr_allB (o : Opr) : AllB o.bytes := opr_int o
theorem pat_allB (xs : List Int) : AllB (pat xs) := fun u hu => by
  obtain ⟨i, _, rfl⟩ := List.mem_map.1 hu
  exact ⟨_, rfl⟩
end Go.Proofs.Ytjldocpjoiibjaa
