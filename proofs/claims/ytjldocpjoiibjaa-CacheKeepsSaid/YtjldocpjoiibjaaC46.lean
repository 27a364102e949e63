/- CacheKeeps' two maps in memory: the dirty ones' bytes, the pins. -/
import Derived.Test.YtjldocpjoiibjaaC45
import Derived.Test.YtjldocpjoiibjaaC43
namespace Go.Proofs.Ytjldocpjoiibjaa
open Go.RowKit

/-- A row of 64 bytes, off the cache. -/
def RowV (w : World) (F : Nat → Prop) (v : Value) (l : List Value) : Prop :=
  ∃ g, v = .slice (some ⟨g, 0, none⟩) 64 64 ∧ l.length = 64 ∧ AllB l ∧ ¬ F g ∧ g < w.heap.size ∧ ∀ j u, l[j]? = some u → w.cell? ⟨g, 0 + j, none⟩ = some u
def DMap (w : World) (F : Nat → Prop) (db : Nat) (D : Int × Int → Option (List Value)) : Prop :=
  ∃ fd, Mp w db fd ∧ ∀ k, (D k = none → fd k = none) ∧ ∀ l, D k = some l → ∃ v, fd k = some v ∧ RowV w F v l
def NMap (w : World) (pm : Nat) (N : Int × Int → Int) : Prop := ∃ fp, PMap w pm fp ∧ ∀ k, (fp k).getD (.int .i64 0) = .int .i64 (N k)
theorem zero_bytes (w : World) : (zeroValue 31).run Try.prog w = .ok (.slice none 0 0) w := (zero_of_info (P := Try.prog) (t := 31) (v := .slice none 0 0) (n := 1) (by kernel_rfl)).1 w
theorem zero_int (w : World) : (zeroValue 3).run Try.prog w = .ok (.int .i64 0) w := (zero_of_info (P := Try.prog) (t := 3) (v := .int .i64 0) (n := 1) (by kernel_rfl)).1 w
section
variable {w w' : World} {F F' S : Nat → Prop} {db pm mb : Nat} {D : Int × Int → Option (List Value)} {N : Int × Int → Int} {v : Value} {l : List Value} {k : Int × Int} {f : Int × Int → Option Value}
theorem RowV.step (h : RowV w F v l) (hf : Fr F w w') (hF : ∀ x, F' x → F x ∨ w.heap.size ≤ x) : RowV w' F' v l := by
  obtain ⟨g, h1, h2, h3, h4, h5, h6⟩ := h
  exact ⟨g, h1, h2, h3, fun hx => (hF g hx).elim h4 (fun h => by omega), Nat.lt_of_lt_of_le h5 hf.size, row_same h6 (hf.block g h5 h4)⟩
theorem RowV.off (h : RowV w F v l) (hm : Mp w mb f) (hf : Fr (fun x => x = mb) w w') : RowV w' F v l := by
  obtain ⟨g, h1, h2, h3, h4, h5, h6⟩ := h
  refine ⟨g, h1, h2, h3, h4, Nat.lt_of_lt_of_le h5 hf.size, row_same h6 (hf.block g h5 fun e => ?_)⟩
  obtain ⟨E, ⟨es, c, hb, _⟩, _⟩ := hm
  have h7 := h6 0 l[0] (List.getElem?_eq_getElem (by omega))
  rw [show g = mb from e] at h7
  unfold World.cell? at h7
  rw [hb] at h7
  simp at h7
theorem DMap.step (h : DMap w F db D) (hf : Fr F w w') (hF : ∀ x, F' x → F x ∨ w.heap.size ≤ x) (hd : ¬ F db) : DMap w' F' db D := by
  obtain ⟨fd, h1, h2⟩ := h
  refine ⟨fd, h1.fr hf hd, fun k => ⟨(h2 k).1, fun l hl => ?_⟩⟩
  obtain ⟨v, hv, hr⟩ := (h2 k).2 l hl
  exact ⟨v, hv, hr.step hf hF⟩
theorem DMap.still (h : DMap w F db D) (hf : Fr (fun _ => False) w w') : DMap w' F db D := by
  obtain ⟨fd, h1, h2⟩ := h
  refine ⟨fd, h1.fr hf id, fun k => ⟨(h2 k).1, fun l hl => ?_⟩⟩
  obtain ⟨v, hv, hr⟩ := (h2 k).2 l hl
  exact ⟨v, hv, hr.step (hf.mono fun _ _ h => h.elim) fun _ h => .inl h⟩
theorem DMap.other (h : DMap w F db D) (hm : Mp w mb f) (hne : db ≠ mb) (hf : Fr (fun x => x = mb) w w') : DMap w' F db D := by
  obtain ⟨fd, h1, h2⟩ := h
  refine ⟨fd, h1.fr hf hne, fun k => ⟨(h2 k).1, fun l hl => ?_⟩⟩
  obtain ⟨v, hv, hr⟩ := (h2 k).2 l hl
  exact ⟨v, hv, hr.off hm hf⟩
theorem DMap.iter (h : DMap w F db D) (hc : w.cell? ⟨mb, 0, none⟩ = none) (hne : db ≠ mb) (hf : Fr (fun x => x = mb) w w') : DMap w' F db D := by
  obtain ⟨fd, h1, h2⟩ := h
  refine ⟨fd, h1.fr hf hne, fun k => ⟨(h2 k).1, fun l hl => ?_⟩⟩
  obtain ⟨v, hv, g, a1, a2, a3, a4, a5, a6⟩ := (h2 k).2 l hl
  refine ⟨v, hv, g, a1, a2, a3, a4, Nat.lt_of_lt_of_le a5 hf.size, row_same a6 (hf.block g a5 fun e => ?_)⟩
  have h7 := a6 0 l[0] (List.getElem?_eq_getElem (by omega))
  rw [show g = mb from e, hc] at h7
  cases h7
theorem iter_none {r m s c : Nat} {sn : Array Nat} (h : w.heap[r]? = some (.mapIter (some m) s sn c)) : w.cell? ⟨r, 0, none⟩ = none := by
  unfold World.cell?
  rw [h]
theorem DMap.put (h : DMap w F db D) (k : Int × Int) (hr : RowV w F v l) : ∃ w', (Instr.mapUpdate 63 (.map (some db)) (keyV k) v).run Try.prog w = .ok () w' ∧ DMap w' F db (putD D k (some l)) ∧ Fr (fun x => x = db) w w' := by
  obtain ⟨fd, h1, h2⟩ := h
  obtain ⟨o, hu, hm⟩ := h1.put Try.underlying63 k v
  have hf := Fr.setB w db o
  refine ⟨_, hu, ⟨_, hm, fun k' => ?_⟩, hf⟩
  unfold putF putD
  by_cases e : k' = k
  · rw [if_pos e, if_pos e]
    exact ⟨fun h => (by cases h), fun l' hl => ⟨v, rfl, by rw [← Option.some.inj hl]; exact hr.off h1 hf⟩⟩
  · rw [if_neg e, if_neg e]
    refine ⟨(h2 k').1, fun l' hl => ?_⟩
    obtain ⟨v', hv', hr'⟩ := (h2 k').2 l' hl
    exact ⟨v', hv', hr'.off h1 hf⟩
theorem DMap.del (h : DMap w F db D) (k : Int × Int) : ∃ w', (∀ ty, (Builtin.delete_ #[63, 29] ty #[.map (some db), keyV k]).run Try.prog w = .ok (.tuple #[]) w') ∧ DMap w' F db (putD D k none) ∧ Fr (fun x => x = db) w w' := by
  obtain ⟨fd, h1, h2⟩ := h
  obtain ⟨w', hu, hm, hf⟩ := h1.del Try.underlying63 k
  refine ⟨w', hu, ⟨_, hm, fun k' => ?_⟩, hf⟩
  unfold delF putD
  by_cases e : k' = k
  · rw [if_pos e, if_pos e]
    exact ⟨fun _ => rfl, fun l' hl => (by cases hl)⟩
  · rw [if_neg e, if_neg e]
    refine ⟨(h2 k').1, fun l' hl => ?_⟩
    obtain ⟨v', hv', hr'⟩ := (h2 k').2 l' hl
    exact ⟨v', hv', hr'.off h1 hf⟩
theorem DMap.some_ (h : DMap w F db D) (k : Int × Int) : ∃ fd, Mp w db fd ∧ (fd k).isSome = (D k).isSome ∧ ∀ l, D k = some l → ∃ v, fd k = some v ∧ RowV w F v l := by
  obtain ⟨fd, h1, h2⟩ := h
  refine ⟨fd, h1, ?_, (h2 k).2⟩
  cases hD : D k with
  | none => rw [(h2 k).1 hD]; rfl
  | some l =>
    obtain ⟨v, hv, _⟩ := (h2 k).2 l hD
    rw [hv]; rfl
theorem DMap.look2 (h : DMap w F db D) (k : Int × Int) : ∃ v, (Instr.lookup 63 (.map (some db)) (keyV k) true).run Try.prog w = .ok (.tuple #[v, .bool (D k).isSome]) w := by
  obtain ⟨fd, h1, h2, _⟩ := h.some_ k
  have := h1.look2 Try.underlying63 (zero_bytes w) k
  rw [h2] at this
  exact ⟨_, this⟩
theorem DMap.look1 (h : DMap w F db D) (hk : D k = some l) : ∃ v, (Instr.lookup 63 (.map (some db)) (keyV k) false).run Try.prog w = .ok v w ∧ RowV w F v l := by
  obtain ⟨fd, h1, _, h3⟩ := h.some_ k
  obtain ⟨v, hv, hr⟩ := h3 l hk
  have := h1.look1 Try.underlying63 (zero_bytes w) k
  rw [hv] at this
  exact ⟨v, this, hr⟩
theorem DMap.lookN (h : DMap w F db D) (hk : D k = some l) : ∃ v, RowV w F v l ∧ ∀ n, (Instr.lookup 63 (.map (some db)) (keyV k) false).run Try.prog (w.drewN n) = .ok v (w.drewN n) := by
  obtain ⟨fd, h1, _, h3⟩ := h.some_ k
  obtain ⟨v, hv, hr⟩ := h3 l hk
  refine ⟨v, hr, fun n => ?_⟩
  have := (h1.fr (Fr.of_drewN (S := fun _ => False) (b := w.drewN n) rfl) id).look1 Try.underlying63 (zero_bytes _) k
  rw [hv] at this
  exact this
theorem DMap.lenK (h : DMap w F db D) {K : List (Int × Int)} (hn : K.Nodup) (hK : ∀ k, k ∈ K ↔ (D k).isSome = true) (ty : TypeId) : (Builtin.len_ #[63] ty #[.map (some db)]).run Try.prog w = .ok (.int .i64 K.length) w := by
  obtain ⟨fd, h1, h2⟩ := h
  refine h1.len Try.underlying63 hn (fun k => ?_) ty
  rw [hK]
  cases hD : D k with
  | none => rw [(h2 k).1 hD]; simp
  | some l =>
    obtain ⟨v, hv, _⟩ := (h2 k).2 l hD
    rw [hv]; simp
theorem DMap.mp (h : DMap w F db D) : ∃ fd, Mp w db fd := ⟨_, h.choose_spec.1⟩
theorem NMap.fr (h : NMap w pm N) (hf : Fr S w w') (hs : ¬ S pm) : NMap w' pm N := by
  obtain ⟨fp, h1, h2⟩ := h
  exact ⟨fp, h1.fr hf hs, h2⟩
theorem NMap.mp (h : NMap w pm N) : ∃ fp, Mp w pm fp := ⟨_, h.choose_spec.1.mp⟩
theorem NMap.look (h : NMap w pm N) (k : Int × Int) : (Instr.lookup 64 (.map (some pm)) (keyV k) false).run Try.prog w = .ok (.int .i64 (N k)) w := by
  obtain ⟨fp, h1, h2⟩ := h
  have := h1.mp.look1 Try.underlying64 (zero_int w) k
  rwa [h2] at this
theorem NMap.bump (h : NMap w pm N) (k : Int × Int) (n : Int) :
    ∃ (w1 w2 : World) (st : Nat), (Instr.mapEntry 64 (.map (some pm)) (keyV k)).run Try.prog w = .ok (.tuple #[.int .i64 (N k), .int .i64 st]) w1 ∧ NMap w1 pm N ∧ Fr (fun x => x = pm) w w1 ∧
      (Instr.entryStore 64 (.map (some pm)) (.int .i64 st) (.int .i64 n)).run Try.prog w1 = .ok () w2 ∧ NMap w2 pm (putD N k n) ∧ Fr (fun x => x = pm) w w2 := by
  obtain ⟨fp, h1, h2⟩ := h
  obtain ⟨w1, st, r1, p1, f1, hst⟩ := h1.bump Try.underlying64 zero_int k
  obtain ⟨w2, r2, p2, f2⟩ := hst (.int .i64 n)
  rw [h2] at r1
  refine ⟨w1, w2, st, r1, ⟨_, p1, fun k' => ?_⟩, f1, r2, ⟨_, p2, fun k' => ?_⟩, f2⟩
  · unfold putF
    by_cases e : k' = k
    · rw [if_pos e, e]; exact h2 k
    · rw [if_neg e]; exact h2 k'
  · unfold putF putD
    by_cases e : k' = k
    · rw [if_pos e, if_pos e]; rfl
    · rw [if_neg e, if_neg e]; exact h2 k'
theorem NMap.new (w : World) (b : Nat) (hb : w.heap[b]? = some (.map #[] 0)) : NMap w b fun _ => 0 := ⟨_, PMap.new w b hb, fun _ => rfl⟩
theorem DMap.new (w : World) (F : Nat → Prop) (b : Nat) (hb : w.heap[b]? = some (.map #[] 0)) : DMap w F b fun _ => none := ⟨_, Mp.new w b hb, fun _ => ⟨fun _ => rfl, fun _ h => by cases h⟩⟩
end
end Go.Proofs.Ytjldocpjoiibjaa
