/- A law's own map from keys to numbers, with its stamps: m[k]++, and range over it. -/
import Derived.Test.YtjldocpjoiibjaaC40
import Derived.Maps.RangeRun
namespace Go.Proofs.Ytjldocpjoiibjaa
open Go.RowKit

def Stamps (es : Array MapEntry) (clock : Nat) : Prop := (es.toList.map (·.born)).Nodup ∧ ∀ e ∈ es.toList, e.born < clock
/-- The map in block mb is f, and its entries' stamps are unlike. -/
def PMap (w : World) (mb : Nat) (f : Int × Int → Option Value) : Prop :=
  ∃ (es : Array MapEntry) (clock : Nat) (E : List ((Int × Int) × Value)), w.heap[mb]? = some (.map es clock) ∧ es.toList.map (fun e => (e.key, e.val)) = E.map (fun x => (keyV x.1, x.2)) ∧ (E.map (·.1)).Nodup ∧ (∀ k v, (k, v) ∈ E ↔ f k = some v) ∧ Stamps es clock
section
variable {w w' : World} {mb : Nat} {f : Int × Int → Option Value} {k : Int × Int} {v z : Value} {t e : TypeId}
theorem PMap.mp (h : PMap w mb f) : Mp w mb f := by
  obtain ⟨es, c, E, h1, h2, h3, h4, _⟩ := h
  exact ⟨E, ⟨es, c, h1, h2⟩, h3, h4⟩
theorem PMap.same (h : PMap w mb f) (hb : w'.heap[mb]? = w.heap[mb]?) : PMap w' mb f := by
  obtain ⟨es, c, E, h1, r⟩ := h
  exact ⟨es, c, E, by rw [hb]; exact h1, r⟩
theorem PMap.fr {S : Nat → Prop} (h : PMap w mb f) (hf : Fr S w w') (hs : ¬ S mb) : PMap w' mb f := h.same (hf.block mb h.mp.lt hs)
theorem PMap.new (w : World) (b : Nat) (hb : w.heap[b]? = some (.map #[] 0)) : PMap w b fun _ => none :=
  ⟨#[], 0, [], hb, rfl, List.nodup_nil, fun k v => by simp, List.nodup_nil, fun e he => by simp at he⟩
theorem find_stamp {es : Array MapEntry} {j : Nat} {x : MapEntry} (hn : (es.toList.map (·.born)).Nodup) (hj : es[j]? = some x) : es.findIdx? (fun e => (e.born : Int) == (x.born : Int)) = some j := by
  have hjl : j < es.size := (Array.getElem?_eq_some_iff.1 hj).1
  have hxe : es[j] = x := (Array.getElem?_eq_some_iff.1 hj).2
  rw [Array.findIdx?_eq_some_iff_getElem]
  refine ⟨hjl, by rw [hxe]; simp, fun i hi => ?_⟩
  rw [Bool.not_eq_true, beq_eq_false_iff_ne]
  intro e
  have e' : es[i].born = x.born := by omega
  have h1 : (es.toList.map (·.born))[i]? = some x.born := by rw [List.getElem?_map, Array.getElem?_toList, Array.getElem?_eq_getElem (by omega)]; simp [e']
  have h2 : (es.toList.map (·.born))[j]? = some x.born := by rw [List.getElem?_map, Array.getElem?_toList, hj]; rfl
  have := (List.getElem?_inj (by simp; omega) hn).1 (h1.trans h2.symm)
  omega
theorem run_entryStore {es : Array MapEntry} {clock j : Nat} {x : MapEntry} (hm : w.heap[mb]? = some (.map es clock)) (hn : (es.toList.map (·.born)).Nodup) (hj : es[j]? = some x) (v : Value) :
    (Instr.entryStore t (.map (some mb)) (.int .i64 x.born) v).run Try.prog w = .ok () (setB w mb (.map (es.modify j fun e => { e with val := v }) clock)) := by
  have ha : ∀ w, (asInt (.int .i64 (x.born : Int))).run Try.prog w = .ok (x.born : Int) w := fun _ => rfl
  simp [Instr.entryStore, MapKept.run_getObj_map hm, ha, find_stamp hn hj, MapKept.run_setObj_map _ hm, Result.andThen, setB]
/-- m[k] op= ..: the entry is made, or is there; then its value is laid. -/
theorem PMap.bump (h : PMap w mb f) (ht : Try.prog.underlying t = some (.map 29 e)) (hz : ∀ w, (zeroValue e).run Try.prog w = .ok z w) (k : Int × Int) :
    ∃ (w1 : World) (st : Nat), (Instr.mapEntry t (.map (some mb)) (keyV k)).run Try.prog w = .ok (.tuple #[(f k).getD z, .int .i64 st]) w1 ∧ PMap w1 mb (putF f k ((f k).getD z)) ∧ Fr (fun x => x = mb) w w1 ∧
      ∀ v, ∃ w2, (Instr.entryStore t (.map (some mb)) (.int .i64 st) v).run Try.prog w1 = .ok () w2 ∧ PMap w2 mb (putF f k v) ∧ Fr (fun x => x = mb) w w2 := by
  obtain ⟨es, clock, E, hm, he, h2, h3, hs1, hs2⟩ := h
  have hf := run_find k w es.toList E he
  have hlE : es.size = E.length := by have := congrArg List.length he; simpa using this
  cases hk : f k with
  | none =>
    have hno : k ∉ E.map (·.1) := fun hx => by have := (mem_keys h3).1 hx; rw [hk] at this; cases this
    rw [findE_none hno] at hf
    have hE : ∀ v, ((E ++ [(k, v)]).map (·.1)).Nodup ∧ ∀ k' v', (k', v') ∈ E ++ [(k, v)] ↔ putF f k v k' = some v' := fun v => by
      refine ⟨?_, fun k' v' => ?_⟩
      · rw [List.map_append, List.nodup_append]
        refine ⟨h2, by simp, fun a ha b hb => ?_⟩
        simp at hb
        subst hb
        exact fun e => hno (by rw [← e]; exact ha)
      · unfold putF
        rw [List.mem_append, List.mem_singleton]
        constructor
        · rintro (hm | hm)
          · rw [if_neg (fun e => hno (by rw [← e]; exact List.mem_map.2 ⟨_, hm, rfl⟩))]
            exact (h3 _ _).1 hm
          · obtain ⟨rfl, rfl⟩ := Prod.mk.inj hm
            rw [if_pos rfl]
        · intro hm
          split at hm
          · rename_i e
            rw [e, Option.some.inj hm]; exact .inr rfl
          · exact .inl ((h3 _ _).2 hm)
    have hst : ∀ v, Stamps (es.push { key := keyV k, val := v, born := clock }) (clock + 1) := fun v => by
      refine ⟨?_, fun e he => ?_⟩
      · rw [Array.toList_push, List.map_append, List.nodup_append]
        refine ⟨hs1, by simp, fun a ha b hb => ?_⟩
        obtain ⟨x, hx, rfl⟩ := List.mem_map.1 ha
        simp at hb
        have := hs2 x hx
        omega
      · rw [Array.toList_push, List.mem_append, List.mem_singleton] at he
        rcases he with he | rfl
        · have := hs2 e he; omega
        · show clock < clock + 1; omega
    have hmd : ∀ v, (es.push { key := keyV k, val := z, born := clock }).modify es.size (fun e => { e with val := v }) = es.push { key := keyV k, val := v, born := clock } := fun v => by
      apply Array.ext_getElem?
      intro i
      rw [Array.getElem?_modify, Array.getElem?_push, Array.getElem?_push]
      by_cases hi : i = es.size
      · subst hi; simp
      · rw [if_neg (fun e => hi e.symm), if_neg hi, if_neg hi]
    have hb1 : (setB w mb (.map (es.push { key := keyV k, val := z, born := clock }) (clock + 1))).heap[mb]? = some (.map (es.push { key := keyV k, val := z, born := clock }) (clock + 1)) := setB_at (blk_lt hm)
    have hes : ∀ v, (Instr.entryStore t (.map (some mb)) (.int .i64 (clock : Nat)) v).run Try.prog (setB w mb (.map (es.push { key := keyV k, val := z, born := clock }) (clock + 1))) = .ok () (setB (setB w mb (.map (es.push { key := keyV k, val := z, born := clock }) (clock + 1))) mb (.map (es.push { key := keyV k, val := v, born := clock }) (clock + 1))) := fun v => by
      have hlast : (es.push { key := keyV k, val := z, born := clock })[es.size]? = some { key := keyV k, val := z, born := clock } := by simp
      have := run_entryStore (t := t) hb1 (hst z).1 hlast v
      rw [hmd] at this
      exact this
    refine ⟨setB w mb (.map (es.push { key := keyV k, val := z, born := clock }) (clock + 1)), clock, ?_, ⟨_, _, E ++ [(k, z)], hb1, by simp [he], (hE z).1, (hE z).2, hst z⟩, Fr.setB _ _ _, fun v => ⟨_, hes v, ⟨_, _, E ++ [(k, v)], setB_at (blk_lt hb1), by simp [he], (hE v).1, (hE v).2, hst v⟩, (Fr.setB _ _ _).trans (Fr.setB _ _ _)⟩⟩
    simp [Instr.mapEntry, run_underlying ht, MapKept.run_getObj_map hm, run_check, hf, hz, MapKept.run_setObj_map _ hm, Result.andThen, setB, goInt]
  | some u =>
    obtain ⟨j, g1, g2⟩ := findE_some (i := 0) h2 ((h3 k u).2 hk)
    rw [g1, Nat.zero_add] at hf
    have hjl : j < es.size := by rw [hlE]; exact (List.getElem?_eq_some_iff.1 g2).1
    have hej : (es.toList.map (fun e => (e.key, e.val)))[j]? = (E.map fun x => (keyV x.1, x.2))[j]? := by rw [he]
    rw [List.getElem?_map, List.getElem?_map, g2, Array.getElem?_toList, Array.getElem?_eq_getElem hjl] at hej
    obtain ⟨k1, k2⟩ := Prod.mk.inj (Option.some.inj hej)
    have hent : es[j]? = some es[j] := Array.getElem?_eq_getElem hjl
    have hsame : es.modify j (fun x => { x with key := keyV k }) = es := by
      apply Array.ext_getElem?
      intro i
      rw [Array.getElem?_modify]
      by_cases hij : j = i
      · subst hij
        rw [if_pos rfl, hent]
        show some { es[j] with key := keyV k } = some es[j]
        rw [← k1]
      · rw [if_neg hij]
    have hb1 : (setB w mb (.map es clock)).heap[mb]? = some (.map es clock) := setB_at (blk_lt hm)
    have hput : ∀ v, putF f k v = putF f k v := fun _ => rfl
    refine ⟨setB w mb (.map es clock), es[j].born, ?_, ⟨_, _, E, hb1, he, h2, fun k' v' => ?_, hs1, hs2⟩, Fr.setB _ _ _, fun v => ⟨_, run_entryStore hb1 hs1 hent v, ?_, (Fr.setB _ _ _).trans (Fr.setB _ _ _)⟩⟩
    · simp [Instr.mapEntry, run_underlying ht, MapKept.run_getObj_map hm, run_check, hf, hent, k1, run_stays, hsame, MapKept.run_setObj_map _ hm, Result.andThen, setB, goInt]
    · rw [h3]
      unfold putF
      by_cases e : k' = k
      · rw [if_pos e, e, hk]; rfl
      · rw [if_neg e]
    · obtain ⟨s1, s2⟩ := set_ents (v := v) j _ g2 h2
      refine ⟨_, _, E.set j (k, v), setB_at (blk_lt hb1), ?_, by rw [s1]; exact h2, fun k' v' => ?_, ?_, ?_⟩
      · apply List.ext_getElem?
        intro i
        have hei : (es.toList.map (fun e => (e.key, e.val)))[i]? = (E.map fun x => (keyV x.1, x.2))[i]? := by rw [he]
        rw [List.getElem?_map, List.getElem?_map, Array.getElem?_toList] at hei
        rw [List.getElem?_map, List.getElem?_map, Array.getElem?_toList, Array.getElem?_modify, List.getElem?_set]
        by_cases hij : j = i
        · subst hij
          rw [if_pos rfl, if_pos rfl, if_pos (List.getElem?_eq_some_iff.1 g2).1, hent]
          show some (es[j].key, v) = some (keyV k, v)
          rw [k1]
        · rw [if_neg hij, if_neg hij]; exact hei
      · rw [s2]
        unfold putF
        constructor
        · rintro (⟨rfl, rfl⟩ | ⟨hne, hmm⟩)
          · rw [if_pos rfl]
          · rw [if_neg hne]; exact (h3 _ _).1 hmm
        · intro hmm
          split at hmm
          · rename_i e
            exact .inl ⟨e, (Option.some.inj hmm).symm⟩
          · rename_i e
            exact .inr ⟨e, (h3 _ _).2 hmm⟩
      · have : (es.modify j fun e => { e with val := v }).toList.map (·.born) = es.toList.map (·.born) := by
          apply List.ext_getElem?
          intro i
          rw [List.getElem?_map, List.getElem?_map, Array.getElem?_toList, Array.getElem?_toList, Array.getElem?_modify]
          split
          · rw [Option.map_map]; rfl
          · rfl
        rw [this]; exact hs1
      · intro e he
        obtain ⟨i, hi⟩ := List.mem_iff_getElem?.1 he
        rw [Array.getElem?_toList, Array.getElem?_modify] at hi
        split at hi
        · obtain ⟨x, hx, rfl⟩ := Option.map_eq_some_iff.1 hi
          exact hs2 x (Array.mem_toList_iff.2 (Array.mem_of_getElem? hx))
        · exact hs2 e (Array.mem_toList_iff.2 (Array.mem_of_getElem? hi))
end
end Go.Proofs.Ytjldocpjoiibjaa
