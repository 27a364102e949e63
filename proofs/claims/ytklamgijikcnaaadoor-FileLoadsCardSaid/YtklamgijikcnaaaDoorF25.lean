/- Plainly: what one Set of data makes of all places; a map filled out of a row of places. -/
import Derived.Test.YtklamgijikcnaaaDoorF23
namespace Go.Proofs.YtklamgijikcnaaaDoor
open Go.RowKit

theorem snoc_ind {α : Type} {P : List α → Prop} (h0 : P []) (h1 : ∀ L p, P L → P (L ++ [p])) (L : List α) : P L := by
  rw [← List.reverse_reverse L]
  induction L.reverse with
  | nil => exact h0
  | cons p R ih => rw [List.reverse_cons]; exact h1 _ _ ih
/-- The map that a row of places fills. -/
noncomputable def mapF (L : List (Int × Int)) : Int → Option Value := L.foldl (fun f p => putK f p.1 (.int .i64 p.2)) fun _ => none
theorem mapF_snoc (L : List (Int × Int)) (p : Int × Int) : mapF (L ++ [p]) = putK (mapF L) p.1 (.int .i64 p.2) := by unfold mapF; rw [List.foldl_append]; rfl
theorem mapF_other : ∀ (L : List (Int × Int)) {k : Int}, k ∉ L.map (·.1) → mapF L k = none := by
  intro L
  refine snoc_ind (P := fun L => ∀ {k : Int}, k ∉ L.map (·.1) → mapF L k = none) ?_ ?_ L
  · intro k _; rfl
  · intro L p ih k hk
    rw [List.map_append, List.mem_append, not_or] at hk
    rw [mapF_snoc, putK_other (fun e => hk.2 (by rw [e]; simp))]
    exact ih hk.1
theorem mapF_at : ∀ (L : List (Int × Int)) {k a : Int}, (L.map (·.1)).Nodup → (k, a) ∈ L → mapF L k = some (.int .i64 a) := by
  intro L
  refine snoc_ind (P := fun L => ∀ {k a : Int}, (L.map (·.1)).Nodup → (k, a) ∈ L → mapF L k = some (.int .i64 a)) ?_ ?_ L
  · intro k a _ h; cases h
  · intro L p ih k a hn h
    rw [List.map_append, List.nodup_append] at hn
    obtain ⟨h1, _, h3⟩ := hn
    rw [mapF_snoc]
    rcases List.mem_append.1 h with h | h
    · rw [putK_other]
      · exact ih h1 h
      · intro e
        exact h3 k (List.mem_map.2 ⟨_, h, rfl⟩) p.1 (by simp) e
    · rw [List.mem_singleton] at h
      rw [← h, putK_self]
theorem mapF_some (L : List (Int × Int)) (hn : (L.map (·.1)).Nodup) (k : Int) : k ∈ L.map (·.1) ↔ (mapF L k).isSome = true := by
  constructor
  · intro h
    obtain ⟨⟨k', a⟩, hm, rfl⟩ := List.mem_map.1 h
    rw [mapF_at L hn hm]; rfl
  · intro h
    by_cases hk : k ∈ L.map (·.1)
    · exact hk
    · rw [mapF_other L hk] at h; cases h
section
variable {d d' : Int → Int} {m m' : MM}
theorem placesD_keys : (placesD d).map (·.1) = keysD d := by unfold placesD; rw [List.map_map]; exact List.map_id _
theorem placesM_keys : (placesM m).map (·.1) = (metasOf m).filter fun k => decide (adrM m k ≠ 0) := by unfold placesM; rw [List.map_map]; exact List.map_id _
theorem places_nodup : ((placesOf d m).map (·.1)).Nodup := by
  unfold placesOf
  rw [List.map_append, placesD_keys, placesM_keys]
  refine List.nodup_append.2 ⟨keysD_nodup d, (metasN_nodup.sublist List.filter_sublist).sublist List.filter_sublist, fun a ha b hb e => ?_⟩
  have h1 := (keysD_range ha).1
  unfold metasOf at hb
  have h2 := (metasN_neg b (List.mem_filter.1 (List.mem_filter.1 hb).1).1).1
  omega
theorem places_len : (placesOf d m).length ≤ 700 := by
  have h1 := keysD_length (d := d)
  have h2 : metasN.length = 42 := by decide +kernel
  have h3 : ((placesOf d m).map (·.1)).length ≤ 642 := by
    unfold placesOf
    rw [List.map_append, placesD_keys, placesM_keys, List.length_append]
    have h4 : ((metasOf m).filter fun k => decide (adrM m k ≠ 0)).length ≤ (metasOf m).length := List.length_filter_le _ _
    have h5 : (metasOf m).length ≤ metasN.length := by unfold metasOf; exact List.length_filter_le _ _
    omega
  rw [List.length_map] at h3
  omega
theorem mem_places (h : Inv d m) {k a : Int} : (k, a) ∈ placesOf d m ↔ a ≠ 0 ∧ adr d m k = a := by
  unfold placesOf placesD placesM
  rw [List.mem_append, List.mem_map, List.mem_map]
  constructor
  · rintro (⟨n, hn, e⟩ | ⟨n, hn, e⟩)
    · obtain ⟨rfl, rfl⟩ := Prod.mk.inj e
      exact ⟨(mem_keysD h).1 hn, adr_data (keysD_range hn).1⟩
    · obtain ⟨rfl, rfl⟩ := Prod.mk.inj e
      rw [List.mem_filter] at hn
      unfold metasOf at hn
      exact ⟨by simpa using hn.2, adr_meta (metasN_neg n (List.mem_filter.1 hn.1).1).1⟩
  · rintro ⟨ha, he⟩
    by_cases hk : 0 ≤ k
    · rw [adr_data hk] at he
      exact .inl ⟨k, (mem_keysD h).2 (by rw [he]; exact ha), by rw [he]⟩
    · rw [adr_meta (by omega)] at he
      refine .inr ⟨k, List.mem_filter.2 ⟨?_, by rw [he]; simpa using ha⟩, by rw [he]⟩
      cases hq : m k with
      | none => unfold adrM at he; rw [hq] at he; exact absurd he.symm ha
      | some v => exact List.mem_filter.2 ⟨h.metas (by rw [hq]; rfl), by rw [hq]; rfl⟩
/-- An address that is set anew: all others stay. -/
theorem setS_others (h : Inv d m) {n a : Int} (hn : 0 ≤ n ∧ n < 600) (ha : a ≠ 0) {k : Int} (hk : k ≠ n) : adr (setS d m n a).1 (setS d m n a).2.1 k = adr d m k := by
  obtain ⟨h1, h2, _⟩ := setS_ok h (a := a) hn
  by_cases hk0 : 0 ≤ k
  · rw [adr_data hk0, adr_data hk0, h1, setD_other hk]
  · rw [h2.adr (by omega)]
    split
    · rfl
    · rename_i hs
      rw [adr_meta (by omega)]
      unfold adrM
      cases hq : m k with
      | none => rfl
      | some v =>
        exfalso
        obtain ⟨i, hi, hd, hp⟩ := (cov h k).1 (by rw [hq]; rfl)
        refine hs ((cov h2.inv k).2 ⟨i, hi, ?_, hp⟩)
        rw [h1]
        by_cases e : (i : Int) = n
        · rw [e, setD_self]; exact ha
        · rw [setD_other e]; exact hd
theorem setS_there (h : Inv d m) {n a : Int} (hn : 0 ≤ n ∧ n < 600) : adr (setS d m n a).1 (setS d m n a).2.1 n = a := by
  rw [adr_data hn.1, (setS_ok h (a := a) hn).1, setD_self]
theorem setS_places (h : Inv d m) {n a : Int} (hn : 0 ≤ n ∧ n < 600) (ha : a ≠ 0) : (placesOf (setS d m n a).1 (setS d m n a).2.1).length = (placesOf d m).length + if d n = 0 then 1 else 0 := by
  have h' := (setS_ok h (a := a) hn).2.1.inv
  by_cases h0 : d n = 0
  · rw [if_pos h0]
    have hp : ((placesOf (setS d m n a).1 (setS d m n a).2.1)).Perm ((n, a) :: placesOf d m) := by
      refine (List.perm_ext_iff_of_nodup ?_ ?_).2 fun p => ?_
      · exact List.Pairwise.of_map (·.1) (fun a b hab e => hab (by rw [e])) places_nodup
      · refine List.nodup_cons.2 ⟨fun hx => ?_, List.Pairwise.of_map (·.1) (fun a b hab e => hab (by rw [e])) places_nodup⟩
        have := (mem_places h).1 hx
        rw [adr_data hn.1, h0] at this
        exact this.1 this.2.symm
      · obtain ⟨k, b⟩ := p
        rw [mem_places h', List.mem_cons, mem_places h]
        by_cases e : k = n
        · subst e
          rw [setS_there h hn, adr_data hn.1, h0]
          constructor
          · rintro ⟨_, rfl⟩; exact .inl rfl
          · rintro (hx | ⟨h1, h2⟩)
            · obtain ⟨_, rfl⟩ := Prod.mk.inj hx
              exact ⟨ha, rfl⟩
            · exact absurd h2.symm h1
        · rw [setS_others h hn ha e]
          exact ⟨.inr, fun hx => hx.resolve_left fun e' => e (Prod.mk.inj e').1⟩
    rw [hp.length_eq, List.length_cons]
  · rw [if_neg h0, Nat.add_zero]
    have hp : ((placesOf (setS d m n a).1 (setS d m n a).2.1).map (·.1)).Perm ((placesOf d m).map (·.1)) := by
      refine (List.perm_ext_iff_of_nodup places_nodup places_nodup).2 fun k => ?_
      rw [List.mem_map, List.mem_map]
      constructor
      · rintro ⟨⟨k', b⟩, hx, rfl⟩
        obtain ⟨h1, h2⟩ := (mem_places h').1 hx
        by_cases e : k' = n
        · subst e
          exact ⟨(k', d k'), (mem_places h).2 ⟨h0, adr_data hn.1⟩, rfl⟩
        · rw [setS_others h hn ha e] at h2
          exact ⟨(k', b), (mem_places h).2 ⟨h1, h2⟩, rfl⟩
      · rintro ⟨⟨k', b⟩, hx, rfl⟩
        obtain ⟨h1, h2⟩ := (mem_places h).1 hx
        by_cases e : k' = n
        · subst e
          exact ⟨(k', a), (mem_places h').2 ⟨ha, setS_there h hn⟩, rfl⟩
        · exact ⟨(k', b), (mem_places h').2 ⟨h1, by rw [setS_others h hn ha e]; exact h2⟩, rfl⟩
    have := hp.length_eq
    rw [List.length_map, List.length_map] at this
    exact this
theorem setS_gone {n a : Int} (ha : a ≠ 0) : (setS d m n a).2.2 = if d n ≠ 0 ∧ d n ≠ a then [d n] else [] := by
  unfold setS
  by_cases h1 : d n = a
  · rw [if_pos h1, if_neg (fun h => h.2 h1)]
  · rw [if_neg h1, if_neg ha]
    by_cases h2 : d n = 0
    · rw [if_pos h2, if_neg (fun h => h.1 h2)]
    · rw [if_neg h2, if_pos ⟨h2, h1⟩]
end
end Go.Proofs.YtklamgijikcnaaaDoor
