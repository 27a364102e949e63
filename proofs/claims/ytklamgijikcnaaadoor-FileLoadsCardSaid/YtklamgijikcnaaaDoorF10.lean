/- .. what Set makes of it: addresses, what is answered; which blocks of pointers are there. -/
import Derived.Test.YtklamgijikcnaaaDoorF9
namespace Go.Proofs.YtklamgijikcnaaaDoor
open Go.RowKit

def hasB (d : Int → Int) (m : MM) (c : Int) : Bool := decide (d c ≠ 0) || (m c).isSome
structure Inv (d : Int → Int) (m : MM) : Prop where
  d0 : ∀ n, d n ≠ 0 → 0 ≤ n ∧ n < 600
  j : JM (hasB d m) m (fun _ => 0)
section
variable {d d' : Int → Int} {m m' : MM}
theorem Inv.metas (h : Inv d m) {k : Int} (hk : (m k).isSome = true) : k ∈ metasN := by
  obtain ⟨v, hv⟩ := Option.isSome_iff_exists.1 hk
  exact h.j.dom k v hv
theorem Inv.data (h : Inv d m) {c : Int} (hc : 0 ≤ c) : m c = none := by
  cases hq : m c with
  | none => rfl
  | some v => have := (metasN_neg c (h.j.dom c v hq)).1; omega
theorem Inv.neg (h : Inv d m) {c : Int} (hc : c < 0) : d c = 0 := by
  by_cases e : d c = 0
  · exact e
  · have := (h.d0 c e).1; omega
theorem JM.congr {h h' : Int → Bool} {q : Int → Int} (hJ : JM h m q) (he : ∀ c ∈ nodesN, h c = h' c) : JM h' m q := by
  have hc : ∀ k, cntN h' k = cntN h k := fun k => by
    unfold cntN
    exact (List.countP_congr fun c hc => by rw [he c (mem_kids.1 hc).1]).symm
  exact ⟨fun k hk => by rw [← he k (mem_nodes.2 (.inr hk))]; exact hJ.has k hk, hJ.dom, fun k a u hk => by rw [hc]; exact hJ.cnt k a u hk, fun k hk hm => by rw [hc]; exact hJ.no k hk hm⟩
theorem Inv.empty : Inv (fun _ => 0) (fun _ => none) := by
  refine ⟨fun n h => absurd rfl h, ⟨fun k _ => rfl, fun k v h => (by cases h), fun k a u h => (by cases h), fun k _ _ => ?_⟩⟩
  have : cntN (hasB (fun _ => 0) fun _ => none) k = 0 := by
    unfold cntN
    rw [List.countP_eq_zero]
    intro c _
    simp [hasB]
  rw [this]; rfl
def setD (d : Int → Int) (n a : Int) : Int → Int := fun x => if x = n then a else d x
theorem setD_self {n a : Int} : setD d n a n = a := by unfold setD; rw [if_pos rfl]
theorem setD_other {n a x : Int} (h : x ≠ n) : setD d n a x = d x := by unfold setD; rw [if_neg h]
theorem inv_of (hd : ∀ n, d' n ≠ 0 → 0 ≤ n ∧ n < 600) {h' : Int → Bool} (hJ : JM h' m' fun _ => 0) (hh : ∀ c, 0 ≤ c → h' c = decide (d' c ≠ 0)) : Inv d' m' := by
  refine ⟨hd, hJ.congr fun c hc => ?_⟩
  unfold hasB
  rcases mem_nodes.1 hc with ⟨h0, _⟩ | hm
  · have : m' c = none := by
      cases hq : m' c with
      | none => rfl
      | some v => have := (metasN_neg c (hJ.dom c v hq)).1; omega
    rw [hh c h0, this]; simp
  · have : d' c = 0 := by
      by_cases e : d' c = 0
      · exact e
      · have := (hd c e).1; have := (metasN_neg c hm).1; omega
    rw [hJ.has c hm, this]; simp
theorem setD_dom (h : Inv d m) {n a : Int} (hn : 0 ≤ n ∧ n < 600) : ∀ x, setD d n a x ≠ 0 → 0 ≤ x ∧ x < 600 := fun x hx => by
  by_cases e : x = n
  · rw [e]; exact hn
  · rw [setD_other e] at hx; exact h.d0 x hx
theorem hasB_setD {n a : Int} (c : Int) (hc : 0 ≤ c) (h : Inv d m) : hasB (setD d n a) m c = decide (setD d n a c ≠ 0) := by
  unfold hasB; rw [h.data hc]; simp
/-- Ahead of need: the data block is told of, but not counted yet. -/
theorem need_pre (h : Inv d m) {n a : Int} (hn : 0 ≤ n ∧ n < 600) (h0 : d n = 0) (ha : a ≠ 0) : JM (hasB (setD d n a) m) m (at1 (upN n).1 (-1)) := by
  have hnn : n ∈ nodesN := mem_nodes.2 (.inl hn)
  have hb : hasB d m n = false := by unfold hasB; rw [h0, h.data hn.1]; rfl
  have he : hasB (setD d n a) m = fun c => hasB d m c || c == n := by
    funext c
    unfold hasB
    by_cases e : c = n
    · subst e; rw [setD_self]; simp [ha]
    · rw [setD_other e, beq_eq_false_iff_ne.2 e, Bool.or_false]
  refine ⟨fun k hk => ?_, h.j.dom, fun k a' u hk => ?_, fun k hk hm => ?_⟩
  · have : k ≠ n := fun e => by have := (metasN_neg k hk).1; omega
    unfold hasB
    rw [setD_other this, h.neg (metasN_neg k hk).1]; simp
  · have := h.j.cnt k a' u hk
    rw [he, cnt_add hb hnn]
    unfold at1
    by_cases e : (upN n).1 = k
    · rw [if_pos e, if_pos e.symm]; omega
    · rw [if_neg e, if_neg (fun e' => e e'.symm)]; omega
  · have := h.j.no k hk hm
    rw [he, cnt_add hb hnn]
    unfold at1
    by_cases e : (upN n).1 = k
    · rw [if_pos e, if_pos e.symm]; omega
    · rw [if_neg e, if_neg (fun e' => e e'.symm)]; omega
theorem leave_pre (h : Inv d m) {n : Int} (hn : 0 ≤ n ∧ n < 600) (h0 : d n ≠ 0) : JM (hasB (setD d n 0) m) m (at1 (upN n).1 1) := by
  have hnn : n ∈ nodesN := mem_nodes.2 (.inl hn)
  have hb : hasB d m n = true := by unfold hasB; simp [h0]
  have he : hasB (setD d n 0) m = fun c => hasB d m c && !(c == n) := by
    funext c
    unfold hasB
    by_cases e : c = n
    · subst e; rw [setD_self, h.data hn.1]; simp
    · rw [setD_other e, beq_eq_false_iff_ne.2 e]; simp
  have h3 := fun k => cnt_del (k := k) hb hnn
  refine ⟨fun k hk => ?_, h.j.dom, fun k a' u hk => ?_, fun k hk hm => ?_⟩
  · have : k ≠ n := fun e => by have := (metasN_neg k hk).1; omega
    unfold hasB
    rw [setD_other this, h.neg (metasN_neg k hk).1]; simp
  · have h2 := h.j.cnt k a' u hk
    have h3 := h3 k
    rw [he]
    unfold at1
    by_cases e : (upN n).1 = k
    · rw [if_pos e] at h3; rw [if_pos e.symm]; omega
    · rw [if_neg e] at h3; rw [if_neg (fun e' => e e'.symm)]; omega
  · have h2 := h.j.no k hk hm
    have h3 := h3 k
    rw [he]
    unfold at1
    by_cases e : (upN n).1 = k
    · rw [if_pos e] at h3; omega
    · rw [if_neg e] at h3; rw [if_neg (fun e' => e e'.symm)]; omega

/-- A block's address: 0, if it is not there, or has none. -/
def adr (d : Int → Int) (m : MM) (c : Int) : Int := if 0 ≤ c then d c else adrM m c
/-- What is told ahead and isn't any more. -/
def goneL (a b : Int → Int) : List Int := (nodesN.filter fun c => decide (a c ≠ 0) && decide (b c ≠ a c)).map a
/-- Set of data. -/
def setS (d : Int → Int) (m : MM) (n a : Int) : (Int → Int) × MM × List Int :=
  if d n = a then (d, m, []) else if a = 0 then (setD d n 0, (leaveM 4 m n).1, sortI (toldL (d n) ++ (leaveM 4 m n).2)) else if d n = 0 then (setD d n a, needM 4 m n, []) else (setD d n a, m, [d n])
theorem goneL_same (a : Int → Int) : goneL a a = [] := by
  unfold goneL
  rw [List.map_eq_nil_iff, List.filter_eq_nil_iff]
  intro c _
  simp
/-- The addresses of those of R that have one. -/
theorem flat_told (f : Int → Int) (R : List Int) : R.flatMap (fun k => toldL (f k)) = (R.filter fun k => decide (f k ≠ 0)).map f := by
  induction R with
  | nil => rfl
  | cons k R ih =>
    rw [List.flatMap_cons, ih]
    by_cases e : f k = 0
    · unfold toldL; rw [if_pos e, List.filter_cons_of_neg (by simp [e])]; rfl
    · unfold toldL; rw [if_neg e, List.filter_cons_of_pos (by simp [e])]; rfl
theorem gone_perm {a b : Int → Int} {R : List Int} (hR : R.Nodup) (h : ∀ c, c ∈ R ↔ c ∈ nodesN ∧ a c ≠ 0 ∧ b c ≠ a c) : (R.map a).Perm (goneL a b) := by
  unfold goneL
  refine List.Perm.map a ((List.perm_ext_iff_of_nodup hR (nodesN_nodup.sublist List.filter_sublist)).2 fun c => ?_)
  rw [h, List.mem_filter]
  simp
theorem adr_meta {k : Int} (hk : k < 0) : adr d m k = adrM m k := by unfold adr; rw [if_neg (by omega)]
theorem adr_data {k : Int} (hk : 0 ≤ k) : adr d m k = d k := by unfold adr; rw [if_pos hk]
/-- One Set of data. -/
structure Stp (d : Int → Int) (m : MM) (d' : Int → Int) (m' : MM) : Prop where
  inv : Inv d' m'
  keep : ∀ k a u, m' k = some (a, u) → adrM m k = a
theorem Stp.adr (h : Stp d m d' m') {k : Int} (hk : k < 0) : Go.Proofs.YtklamgijikcnaaaDoor.adr d' m' k = if (m' k).isSome then Go.Proofs.YtklamgijikcnaaaDoor.adr d m k else 0 := by
  rw [adr_meta hk, adr_meta hk]
  cases hq : m' k with
  | none => unfold adrM; rw [hq]; rfl
  | some v => rw [if_pos (by rfl), h.keep k v.1 v.2 hq]; unfold adrM; rw [hq]; rfl
theorem setS_ok (h : Inv d m) {n a : Int} (hn : 0 ≤ n ∧ n < 600) : (setS d m n a).1 = setD d n a ∧ Stp d m (setS d m n a).1 (setS d m n a).2.1 ∧ (setS d m n a).2.2 = sortI (goneL (adr d m) (adr (setS d m n a).1 (setS d m n a).2.1)) := by
  have hnn : n ∈ nodesN := mem_nodes.2 (.inl hn)
  have hs0 : sortI [] = [] := by unfold sortI; rw [List.mergeSort_nil]
  unfold setS
  by_cases h1 : d n = a
  · rw [if_pos h1]
    dsimp only
    refine ⟨?_, ⟨h, fun k a u hk => by unfold adrM; rw [hk]; rfl⟩, by rw [goneL_same, hs0]⟩
    funext x
    unfold setD
    by_cases e : x = n
    · rw [if_pos e, e, h1]
    · rw [if_neg e]
  rw [if_neg h1]
  by_cases h2 : a = 0
  · rw [if_pos h2]
    subst h2
    dsimp only
    obtain ⟨h', i1, i2, i3, R, i4, i5, i6⟩ := leave_inv 4 _ m n hnn (by omega) (leave_pre h hn h1)
    have hi : Inv (setD d n 0) (leaveM 4 m n).1 := inv_of (setD_dom h hn) i1 fun c hc => by rw [i2 c hc, hasB_setD c hc h]
    have hst : Stp d m (setD d n 0) (leaveM 4 m n).1 := ⟨hi, fun k a u hk => by obtain ⟨u', hu⟩ := i3 k a u hk; unfold adrM; rw [hu]; rfl⟩
    refine ⟨rfl, hst, sortI_of_perm ?_⟩
    show (toldL (d n) ++ (leaveM 4 m n).2).Perm _
    rw [i6, flat_told]
    have ht : toldL (d n) = [n].map (adr d m) := by unfold toldL; rw [if_neg h1, List.map_cons, List.map_nil, adr_data hn.1]
    have hneg : ∀ k ∈ R, k < 0 := fun k hk => (metasN_neg k (h.metas ((i5 k).1 hk).1)).1
    have hm : (R.filter fun k => decide (adrM m k ≠ 0)).map (adrM m) = (R.filter fun k => decide (adrM m k ≠ 0)).map (adr d m) := List.map_congr_left fun k hk => (adr_meta (hneg k (List.mem_filter.1 hk).1)).symm
    rw [ht, hm, ← List.map_append]
    refine gone_perm (List.nodup_append.2 ⟨by simp, i4.sublist List.filter_sublist, fun x hx y hy => ?_⟩) fun c => ?_
    · rw [List.mem_singleton] at hx
      have := hneg y (List.mem_filter.1 hy).1
      omega
    · rw [List.mem_append, List.mem_singleton, List.mem_filter, i5]
      constructor
      · rintro (rfl | ⟨⟨c1, c2⟩, c3⟩)
        · exact ⟨hnn, by rw [adr_data hn.1]; exact h1, by rw [adr_data hn.1, adr_data hn.1, setD_self]; exact fun e => h1 e.symm⟩
        · have hcm := h.metas c1
          have hc0 := (metasN_neg c hcm).1
          refine ⟨mem_nodes.2 (.inr hcm), by rw [adr_meta hc0]; simpa using c3, ?_⟩
          rw [hst.adr hc0, c2, if_neg (by simp), adr_meta hc0]
          have : adrM m c ≠ 0 := by simpa using c3
          exact fun e => this e.symm
      · rintro ⟨c1, c2, c3⟩
        rcases mem_nodes.1 c1 with ⟨c4, _⟩ | c4
        · left
          rw [adr_data c4, adr_data c4] at c3
          by_cases e : c = n
          · exact e
          · rw [setD_other e] at c3; exact absurd rfl c3
        · right
          have hc0 := (metasN_neg c c4).1
          rw [hst.adr hc0] at c3
          rw [adr_meta hc0] at c2
          refine ⟨⟨?_, ?_⟩, by simpa using c2⟩
          · cases hq : m c with
            | none => exfalso; unfold adrM at c2; rw [hq] at c2; exact c2 rfl
            | some v => rfl
          · cases hq : (leaveM 4 m n).1 c with
            | none => rfl
            | some v => rw [hq, if_pos (by rfl)] at c3; exact absurd rfl c3
  rw [if_neg h2]
  have hgone : ∀ {m' : MM}, Stp d m (setD d n a) m' → (∀ k, (m k).isSome = true → (m' k).isSome = true) → ∀ (L : List Int), (L = if d n = 0 then [] else [n]) → (L.map (adr d m)).Perm (goneL (adr d m) (adr (setD d n a) m')) := fun {m'} hst hk L hL => by
    refine gone_perm (by rw [hL]; split <;> simp) fun c => ?_
    constructor
    · intro hc
      rw [hL] at hc
      split at hc
      · cases hc
      · rename_i h0
        rw [List.mem_singleton] at hc
        subst hc
        exact ⟨hnn, by rw [adr_data hn.1]; exact h0, by rw [adr_data hn.1, adr_data hn.1, setD_self]; exact fun e => h1 e.symm⟩
    · rintro ⟨c1, c2, c3⟩
      rcases mem_nodes.1 c1 with ⟨c4, _⟩ | c4
      · rw [adr_data c4, adr_data c4] at c3
        rw [adr_data c4] at c2
        by_cases e : c = n
        · subst e; rw [hL, if_neg c2]; simp
        · rw [setD_other e] at c3; exact absurd rfl c3
      · exfalso
        have hc0 := (metasN_neg c c4).1
        rw [hst.adr hc0] at c3
        rw [adr_meta hc0] at c2
        have : (m c).isSome = true := by
          cases hq : m c with
          | none => exfalso; unfold adrM at c2; rw [hq] at c2; exact c2 rfl
          | some v => rfl
        rw [if_pos (hk c this)] at c3
        exact c3 rfl
  by_cases h3 : d n = 0
  · rw [if_pos h3]
    dsimp only
    obtain ⟨h', i1, i2, i3, i4⟩ := need_inv 4 _ m n hnn (by omega) (by unfold hasB; rw [setD_self]; simp [h2]) (need_pre h hn h3 h2)
    have hi : Inv (setD d n a) (needM 4 m n) := inv_of (setD_dom h hn) i1 fun c hc => by rw [i2 c hc, hasB_setD c hc h]
    have hst : Stp d m (setD d n a) (needM 4 m n) := ⟨hi, fun k a u hk => by
      rcases i3 k a u hk with ⟨u', hu⟩ | ⟨hu, rfl⟩
      · unfold adrM; rw [hu]; rfl
      · unfold adrM; rw [hu]; rfl⟩
    refine ⟨rfl, hst, ?_⟩
    have := sortI_of_perm (hgone hst i4 [] (by rw [if_pos h3]))
    rw [← this, List.map_nil, hs0]
  · rw [if_neg h3]
    dsimp only
    have he : ∀ c, hasB (setD d n a) m c = hasB d m c := fun c => by
      unfold hasB
      by_cases e : c = n
      · subst e; rw [setD_self]; simp [h2, h3]
      · rw [setD_other e]
    have hst : Stp d m (setD d n a) m := ⟨⟨setD_dom h hn, h.j.congr fun c _ => (he c).symm⟩, fun k a u hk => by unfold adrM; rw [hk]; rfl⟩
    refine ⟨rfl, hst, ?_⟩
    have := sortI_of_perm (hgone hst (fun _ h => h) [n] (by rw [if_neg h3]))
    rw [← this, List.map_cons, List.map_nil, adr_data hn.1]
    unfold sortI; rw [List.mergeSort_singleton]
end
end Go.Proofs.YtklamgijikcnaaaDoor
