/- A range over a map whose keys are plain: what is done, what is left. -/
import Derived.Test.YtoofcnehoffllaaMaps
namespace Go.Proofs.Ytoofcnehoffllaa
open Go.RowKit

theorem nodup_inj {α β : Type} {g : α → β} : ∀ {l : List α}, (l.map g).Nodup → ∀ {a b : α}, a ∈ l → b ∈ l → g a = g b → a = b
  | [], _, _, _, ha, _, _ => by cases ha
  | x :: l, h, a, b, ha, hb, e => by
    rw [List.map_cons, List.nodup_cons] at h
    rcases List.mem_cons.1 ha with rfl | ha'
    · rcases List.mem_cons.1 hb with rfl | hb'
      · rfl
      · exact absurd (List.mem_map.2 ⟨b, hb', e.symm⟩) h.1
    · rcases List.mem_cons.1 hb with rfl | hb'
      · exact absurd (List.mem_map.2 ⟨a, ha', e⟩) h.1
      · exact nodup_inj h.2 ha' hb' e
/-- The range at ri over the map at mb: the keys done; n entries are left. -/
def RngAt {α : Type} (ke : α → Value) (w : World) (ri mb : Nat) (f : α → Option Value) (done : List α) (n : Nat) : Prop :=
  ∃ (es : Array MapEntry) (clock : Nat) (seen : Array Nat), w.heap[ri]? = some (.mapIter (some mb) clock seen clock) ∧ w.heap[mb]? = some (.map es clock) ∧ MapKept.Stamped es clock ∧
    (∀ e ∈ es.toList, ∃ k, e.key = ke k ∧ f k = some e.val) ∧ (∀ k v, f k = some v → ∃ e ∈ es.toList, e.key = ke k ∧ e.val = v) ∧
    done.Nodup ∧ (∀ k ∈ done, (f k).isSome = true) ∧ (∀ e ∈ es.toList, seen.contains e.born = true ↔ ∃ k ∈ done, e.key = ke k) ∧ (leftOf es seen).size = n
section
variable {α : Type} {ke : α → Value} {P : Program} {K e t : TypeId} {d : TypeDesc} {w w' : World} {mb ri n : Nat} {f : α → Option Value} {done : List α}
theorem RngAt.lt (h : RngAt ke w ri mb f done n) : ri < w.heap.size ∧ mb < w.heap.size := by
  obtain ⟨es, clock, seen, hr, hm, _⟩ := h
  exact ⟨blk_lt hr, blk_lt hm⟩
theorem RngAt.fr {S : Nat → Prop} (h : RngAt ke w ri mb f done n) (hf : Fr S w w') (h1 : ¬ S ri) (h2 : ¬ S mb) : RngAt ke w' ri mb f done n := by
  obtain ⟨es, clock, seen, hr, hm, hh⟩ := h
  exact ⟨es, clock, seen, (hf.block ri (blk_lt hr) h1).trans hr, (hf.block mb (blk_lt hm) h2).trans hm, hh⟩
theorem RngAt.below (h : RngAt ke w ri mb f done n) (hb : Below w.heap.size w w') : RngAt ke w' ri mb f done n := h.fr (S := fun _ => False) (Fr.below hb) id id
theorem RngAt.start (h : MapIs ke w mb f) (_L : KL P K d ke) (ht : P.underlying t = some (.map K e)) :
    ∃ (o : Obj) (n : Nat), (Instr.range t (.map (some mb))).run P w = .ok (.pointer (some ⟨w.heap.size, 0, none⟩)) (w.alloc o) ∧ RngAt ke (w.alloc o) w.heap.size mb f [] n := by
  obtain ⟨es, c, hm, hs, h1, h2⟩ := h
  refine ⟨_, _, run_range_map (P := P) w t K e mb es c ht hm, es, c, #[], ?_, blk_old hm, hs, h1, h2, List.nodup_nil, (fun k hk => by cases hk), fun x _ => ?_, rfl⟩
  · exact blk_new rfl
  · simp
theorem RngAt.next (h : RngAt ke w ri mb f done n) (L : KL P K d ke) (ty : TypeId) :
    (n = 0 ∧ (∀ k, (f k).isSome = true ↔ k ∈ done) ∧ (Instr.next (.pointer (some ⟨ri, 0, none⟩)) false ty).run P w = .ok (.tuple #[.bool false]) w) ∨
    ∃ (k : α) (v : Value) (wN : World) (n' : Nat), f k = some v ∧ k ∉ done ∧ n' < n ∧ RngAt ke wN ri mb f (done ++ [k]) n' ∧ Fr (fun x => x = ri) w wN ∧
      (Instr.next (.pointer (some ⟨ri, 0, none⟩)) false ty).run P w = .ok (.tuple #[.bool true, ke k, v]) wN ∧ (Instr.entry (.pointer (some ⟨ri, 0, none⟩))).run P wN = .ok (.tuple #[ke k, v]) wN := by
  obtain ⟨es, clock, seen, hr, hm, hs, h1, h2, hn, hd, hse, hsz⟩ := h
  rcases run_next_at (P := P) w ty ri mb clock clock seen es clock hr hm hs.1 (Nat.le_refl _) with ⟨h0, hrun⟩ | ⟨x, hx, wq, hq, hrun⟩
  · refine .inl ⟨by omega, fun k => ⟨fun hk => ?_, hd k⟩, hrun⟩
    obtain ⟨v, hv⟩ := Option.isSome_iff_exists.1 hk
    obtain ⟨x, hx, hxk, _⟩ := h2 k v hv
    have hc : seen.contains x.born = true := by
      cases hc : seen.contains x.born with
      | true => rfl
      | false =>
        have : x ∈ leftOf es seen := by
          unfold leftOf
          exact Array.mem_filter.2 ⟨Array.mem_toList_iff.1 hx, by rw [hc]; rfl⟩
        have := Array.size_pos_of_mem this
        omega
    obtain ⟨k', hk', e'⟩ := (hse x hx).1 hc
    rw [L.inj _ _ (hxk.symm.trans e')]
    exact hk'
  · right
    obtain ⟨hem, hes⟩ := mem_left hx
    obtain ⟨k, hek, hfk⟩ := h1 x hem
    have hrl : ri < w.heap.size := blk_lt hr
    have hrm : mb ≠ ri := fun e => by rw [e, hr] at hm; injection hm with hm; cases hm
    obtain ⟨wN, hwN⟩ : ∃ wN, wN = ChangeMaps.setBlock wq ri (.mapIter (some mb) clock (seen.push x.born) clock) := ⟨_, rfl⟩
    have hfN : Fr (fun y => y = ri) w wN := by
      rw [hwN]
      rcases hq with rfl | rfl
      · exact Fr.setB _ _ _
      · exact (Fr.refl (fun y => y = ri) w).drew.trans (Fr.setB w.drew _ _)
    have hriN : wN.heap[ri]? = some (.mapIter (some mb) clock (seen.push x.born) clock) := by
      rw [hwN]
      rcases hq with rfl | rfl
      · exact setB_at hrl
      · exact setB_at (w := w.drew) hrl
    have hmN : wN.heap[mb]? = some (.map es clock) := (hfN.block mb (blk_lt hm) hrm).trans hm
    have hent := run_entry_at (P := P) wN ri mb clock seen es clock x hriN hmN hem hs.2.1
    have hshr := left_shrinks es seen x hx
    rw [← hwN] at hrun
    rw [hek] at hrun hent
    have hkd : k ∉ done := fun hk => by rw [(hse x hem).2 ⟨k, hk, hek⟩] at hes; cases hes
    refine ⟨k, x.val, wN, _, hfk, hkd, by omega, ⟨es, clock, seen.push x.born, hriN, hmN, hs, h1, h2, ?_, fun k' hk' => ?_, fun y hy => ?_, rfl⟩, hfN, hrun, hent⟩
    · rw [List.nodup_append]
      exact ⟨hn, by simp, fun a ha b hb e => by rw [List.mem_singleton] at hb; rw [e, hb] at ha; exact hkd ha⟩
    · rcases List.mem_append.1 hk' with hk' | hk'
      · exact hd k' hk'
      · rw [List.mem_singleton.1 hk', hfk]; rfl
    · have hc : (seen.push x.born).contains y.born = true ↔ seen.contains y.born = true ∨ y.born = x.born := by
        simp only [Array.contains_iff_mem, Array.mem_push]
      rw [hc, hse y hy]
      constructor
      · rintro (⟨k', hk', e'⟩ | e')
        · exact ⟨k', List.mem_append_left _ hk', e'⟩
        · refine ⟨k, by simp, ?_⟩
          have : y = x := by
            have hnd := hs.2.1
            exact nodup_inj hnd hy hem e'
          rw [this]; exact hek
      · rintro ⟨k', hk', e'⟩
        rcases List.mem_append.1 hk' with hk' | hk'
        · exact .inl ⟨k', hk', e'⟩
        · rw [List.mem_singleton] at hk'
          subst hk'
          right
          have hpw := hs.2.2
          have : y = x := by
            by_cases e : y = x
            · exact e
            · exfalso
              have hpw := (MapKept.stamped_iff es clock).1 hs
              rcases List.pairwise_iff_getElem.1 hpw.2.2 with hpp
              obtain ⟨a, ha, hya⟩ := List.mem_iff_getElem.1 hy
              obtain ⟨b, hb, hxb⟩ := List.mem_iff_getElem.1 hem
              rcases Nat.lt_trichotomy a b with hab | hab | hab
              · exact hpp a b ha hb hab (by rw [hya, hxb, e', hek])
              · subst hab; exact e (by rw [← hya, ← hxb])
              · exact hpp b a hb ha hab (by rw [hya, hxb, e', hek])
          rw [this]
end
/-- How many entries are left. -/
def rngLeft (w : World) (ri mb : Nat) : Nat := match w.heap[ri]?, w.heap[mb]? with
  | some (.mapIter _ _ seen _), some (.map es _) => (leftOf es seen).size
  | _, _ => 0
theorem RngAt.left {α : Type} {ke : α → Value} {w : World} {mb ri n : Nat} {f : α → Option Value} {done : List α} (h : RngAt ke w ri mb f done n) : rngLeft w ri mb = n := by
  obtain ⟨es, clock, seen, hr, hm, _, _, _, _, _, _, hsz⟩ := h
  unfold rngLeft
  rw [hr, hm]
  exact hsz
end Go.Proofs.Ytoofcnehoffllaa
