/- The map of blocks, plainly: which blocks of pointers are there, how many of their pointers lead to something; what need and leave make of it. -/
import Derived.Test.YtklamgijikcnaaaDoorF7
namespace Go.Proofs.YtklamgijikcnaaaDoor
open Go.RowKit

/-- All blocks: data, and blocks of pointers. -/
def nodesN : List Int := (List.range 600).map (fun (i : Nat) => (i : Int)) ++ metasN
theorem metasN_nodup : metasN.Nodup := by decide +kernel
theorem metasN_neg : ∀ k ∈ metasN, k < 0 ∧ -1000 ≤ k := by decide +kernel
theorem metas_find : ∀ k ∈ metasN, (findN k).isSome = true ∧ 1 ≤ lvlN k ∧ lvlN k ≤ 3 := by decide +kernel
theorem metas_up : ∀ k ∈ metasN, (upN k).1 = 600 ∨ ((upN k).1 ∈ metasN ∧ lvlN (upN k).1 = lvlN k + 1) := by decide +kernel
theorem data_up : ∀ i : Nat, i < 600 → (upN (i : Int)).1 = 600 ∨ ((upN (i : Int)).1 ∈ metasN ∧ lvlN (upN (i : Int)).1 = 1) := by decide +kernel
theorem data_path : ∀ i : Nat, i < 600 → (upN (i : Int)).1 = 600 ∧ pathN (i : Int) = [] ∨ (upN (i : Int)).1 ∈ (pathN (i : Int)).map (·.1) := by decide +kernel
theorem path_up : ∀ i : Nat, i < 600 → ∀ c ∈ (pathN (i : Int)).map (·.1), c ∈ metasN ∧ ((upN c).1 = 600 ∨ (upN c).1 ∈ (pathN (i : Int)).map (·.1)) := by decide +kernel
theorem mem_nodes {c : Int} : c ∈ nodesN ↔ (0 ≤ c ∧ c < 600) ∨ c ∈ metasN := by
  unfold nodesN
  rw [List.mem_append, List.mem_map]
  constructor
  · rintro (⟨i, hi, rfl⟩ | h)
    · rw [List.mem_range] at hi
      exact .inl ⟨by omega, by omega⟩
    · exact .inr h
  · rintro (⟨h0, h1⟩ | h)
    · exact .inl ⟨c.toNat, List.mem_range.2 (by omega), by omega⟩
    · exact .inr h
theorem nodesN_nodup : nodesN.Nodup := by
  unfold nodesN
  refine List.nodup_append.2 ⟨List.Pairwise.map _ (fun a b hab he => hab (by omega)) List.nodup_range, metasN_nodup, fun a ha b hb => ?_⟩
  obtain ⟨i, _, rfl⟩ := List.mem_map.1 ha
  have := (metasN_neg b hb).1
  omega
theorem off600 : (600 : Int) ∉ metasN := fun h => by have := (metasN_neg _ h).1; omega
theorem node_find {c : Int} (h : c ∈ nodesN) : ∃ l f, findN c = some (l, f) ∧ lvlN c = l := by
  have hs : (findN c).isSome = true := by
    rcases mem_nodes.1 h with ⟨h0, h1⟩ | h
    · unfold findN; rw [if_pos h0, if_pos h1]; rfl
    · exact (metas_find c h).1
  obtain ⟨⟨l, f⟩, hf⟩ := Option.isSome_iff_exists.1 hs
  exact ⟨l, f, hf, (lvl_of hf).1⟩
theorem node_up {c : Int} (h : c ∈ nodesN) : (upN c).1 = 600 ∨ ((upN c).1 ∈ metasN ∧ lvlN (upN c).1 = lvlN c + 1) := by
  rcases mem_nodes.1 h with ⟨h0, h1⟩ | h
  · have hc : c = ((c.toNat : Nat) : Int) := by omega
    have h2 := data_up c.toNat (by omega)
    rw [← hc] at h2
    have hl : lvlN c = 0 := by unfold lvlN findN; rw [if_pos h0, if_pos h1]; rfl
    rw [hl]; exact h2
  · exact metas_up c h
theorem node_lvl {c : Int} (h : c ∈ nodesN) : lvlN c ≤ 3 := by
  obtain ⟨l, f, hf, hl⟩ := node_find h
  have := (findN_bd hf).2.2.2.1
  omega
theorem up_ne {c : Int} (h : c ∈ nodesN) : (upN c).1 ≠ c := fun e => by
  rcases node_up h with h' | ⟨_, h'⟩
  · have := mem_nodes.1 h
    rw [h'] at e
    rw [← e] at this
    rcases this with this | this
    · omega
    · exact off600 this
  · rw [e] at h'; omega
def kidsN (k : Int) : List Int := nodesN.filter fun c => (upN c).1 == k
theorem mem_kids {c k : Int} : c ∈ kidsN k ↔ c ∈ nodesN ∧ (upN c).1 = k := by unfold kidsN; rw [List.mem_filter, beq_iff_eq]
def cntN (h : Int → Bool) (k : Int) : Nat := (kidsN k).countP h
theorem countP_add {l : List Int} (hn : l.Nodup) (h : Int → Bool) {p : Int} (hp : h p = false) : l.countP (fun c => h c || c == p) = l.countP h + if p ∈ l then 1 else 0 := by
  induction l with
  | nil => simp
  | cons a l ih =>
    rw [List.nodup_cons] at hn
    rw [List.countP_cons, List.countP_cons, ih hn.2]
    by_cases e : a = p
    · subst e
      rw [if_neg hn.1, if_pos List.mem_cons_self, hp]
      simp
    · have e' : (a == p) = false := beq_eq_false_iff_ne.2 e
      rw [e', Bool.or_false]
      by_cases hm : p ∈ l
      · rw [if_pos hm, if_pos (List.mem_cons_of_mem _ hm)]; omega
      · have hm2 : p ∉ a :: l := fun hx => (List.mem_cons.1 hx).elim (fun h => e h.symm) hm
        rw [if_neg hm, if_neg hm2]; omega
theorem cnt_add {h : Int → Bool} {p k : Int} (hp : h p = false) (hk : p ∈ nodesN) : cntN (fun c => h c || c == p) k = cntN h k + if (upN p).1 = k then 1 else 0 := by
  unfold cntN
  rw [countP_add (l := kidsN k) (nodesN_nodup.sublist List.filter_sublist) h hp]
  by_cases e : (upN p).1 = k
  · rw [if_pos e, if_pos (mem_kids.2 ⟨hk, e⟩)]
  · rw [if_neg e, if_neg fun hm => e (mem_kids.1 hm).2]
theorem kids_length (k : Int) (h : k ∈ metasN) : (kidsN k).length ≤ 16 := by revert k; decide +kernel
theorem cnt_le {h : Int → Bool} {k : Int} (hk : k ∈ metasN) : cntN h k ≤ 16 := Nat.le_trans List.countP_le_length (kids_length k hk)

abbrev MM := Int → Option (Int × Int)
def updM (m : MM) (k : Int) (v : Option (Int × Int)) : MM := fun x => if x = k then v else m x
theorem updM_self {m : MM} {k : Int} {v : Option (Int × Int)} : updM m k v k = v := by unfold updM; rw [if_pos rfl]
theorem updM_other {m : MM} {k x : Int} {v : Option (Int × Int)} (h : x ≠ k) : updM m k v x = m x := by unfold updM; rw [if_neg h]
def needM : Nat → MM → Int → MM
  | 0, m, _ => m
  | t + 1, m, n => if (upN n).1 = 600 then m else
    match m (upN n).1 with
    | some (a, u) => updM m (upN n).1 (some (a, u + 1))
    | none => needM t (updM m (upN n).1 (some (0, 1))) (upN n).1
def toldL (a : Int) : List Int := if a = 0 then [] else [a]
def leaveM : Nat → MM → Int → MM × List Int
  | 0, m, _ => (m, [])
  | t + 1, m, n => if (upN n).1 = 600 then (m, []) else
    match m (upN n).1 with
    | none => (m, [])
    | some (a, u) => if 0 < u - 1 then (updM m (upN n).1 (some (a, u - 1)), []) else
      ((leaveM t (updM m (upN n).1 none) (upN n).1).1, toldL a ++ (leaveM t (updM m (upN n).1 none) (upN n).1).2)
/-- Each block of pointers that is there is told of by h, and its count is h's, but for what q says. -/
structure JM (h : Int → Bool) (m : MM) (q : Int → Int) : Prop where
  has : ∀ k ∈ metasN, h k = (m k).isSome
  dom : ∀ k v, m k = some v → k ∈ metasN
  cnt : ∀ k a u, m k = some (a, u) → u = (cntN h k : Int) + q k ∧ 0 < u
  no : ∀ k ∈ metasN, m k = none → (cntN h k : Int) + q k = 0
def at1 (k : Int) (z : Int) : Int → Int := fun x => if x = k then z else 0
theorem need_inv : ∀ (t : Nat) (h : Int → Bool) (m : MM) (n : Int), n ∈ nodesN → 4 ≤ lvlN n + t → h n = true → JM h m (at1 (upN n).1 (-1)) →
    ∃ h', JM h' (needM t m n) (fun _ => 0) ∧ (∀ c, 0 ≤ c → h' c = h c) ∧ (∀ k a u, needM t m n k = some (a, u) → (∃ u', m k = some (a, u')) ∨ m k = none ∧ a = 0) ∧ ∀ k, (m k).isSome = true → (needM t m n k).isSome = true
  | 0, h, m, n, hn, ht, _, _ => by have := node_lvl hn; omega
  | t + 1, h, m, n, hn, ht, hh, hJ => by
    unfold needM
    by_cases h6 : (upN n).1 = 600
    · rw [if_pos h6]
      refine ⟨h, ⟨hJ.has, hJ.dom, fun k a u hk => ?_, fun k hk hm => ?_⟩, fun _ _ => rfl, fun k a u hk => .inl ⟨u, hk⟩, fun k hk => hk⟩
      · have := hJ.cnt k a u hk
        have hd := hJ.dom k _ hk
        rw [h6] at this
        unfold at1 at this
        rw [if_neg (fun e : k = 600 => off600 (e ▸ hd))] at this
        exact this
      · have := hJ.no k hk hm
        rw [h6] at this
        unfold at1 at this
        rw [if_neg (fun e : k = 600 => off600 (e ▸ hk))] at this
        exact this
    · rw [if_neg h6]
      obtain ⟨hpm, hpl⟩ := (node_up hn).resolve_left h6
      generalize hp : (upN n).1 = p at *
      cases hmp : m p with
      | some v =>
        obtain ⟨a, u⟩ := v
        dsimp only
        have h1 := hJ.cnt p a u hmp
        unfold at1 at h1
        rw [if_pos rfl] at h1
        refine ⟨h, ⟨fun k hk => ?_, fun k v hk => ?_, fun k a' u' hk => ?_, fun k hk hm => ?_⟩, fun _ _ => rfl, fun k a' u' hk => ?_, fun k hk => ?_⟩
        · by_cases e : k = p
          · rw [e, updM_self, hJ.has p hpm, hmp]; rfl
          · rw [updM_other e]; exact hJ.has k hk
        · by_cases e : k = p
          · rw [e]; exact hpm
          · simp only [updM_other e] at hk; exact hJ.dom k v hk
        · by_cases e : k = p
          · subst e
            simp only [updM_self] at hk
            obtain ⟨rfl, rfl⟩ := Prod.mk.inj (Option.some.inj hk)
            omega
          · simp only [updM_other e] at hk
            have := hJ.cnt k a' u' hk
            unfold at1 at this
            rw [if_neg e] at this
            exact this
        · by_cases e : k = p
          · subst e
            simp only [updM_self] at hm
            cases hm
          · simp only [updM_other e] at hm
            have := hJ.no k hk hm
            unfold at1 at this
            rw [if_neg e] at this
            exact this
        · by_cases e : k = p
          · subst e
            simp only [updM_self] at hk
            obtain ⟨rfl, rfl⟩ := Prod.mk.inj (Option.some.inj hk)
            exact .inl ⟨u, hmp⟩
          · simp only [updM_other e] at hk
            exact .inl ⟨u', hk⟩
        · by_cases e : k = p
          · subst e; simp only [updM_self]; rfl
          · simp only [updM_other e]; exact hk
      | none =>
        dsimp only
        have hhp : h p = false := by rw [hJ.has p hpm, hmp]; rfl
        have hpn : p ∈ nodesN := mem_nodes.2 (.inr hpm)
        have h1 := hJ.no p hpm hmp
        unfold at1 at h1
        rw [if_pos rfl] at h1
        have hJ' : JM (fun c => h c || c == p) (updM m p (some (0, 1))) (at1 (upN p).1 (-1)) := by
          refine ⟨fun k hk => ?_, fun k v hk => ?_, fun k a u hk => ?_, fun k hk hm => ?_⟩
          · by_cases e : k = p
            · rw [e, updM_self]; simp
            · rw [updM_other e, beq_eq_false_iff_ne.2 e, Bool.or_false]; exact hJ.has k hk
          · by_cases e : k = p
            · rw [e]; exact hpm
            · rw [updM_other e] at hk; exact hJ.dom k v hk
          · rw [cnt_add hhp hpn]
            unfold at1
            by_cases e : k = p
            · subst e
              rw [updM_self] at hk
              obtain ⟨rfl, rfl⟩ := Prod.mk.inj (Option.some.inj hk)
              rw [if_neg (up_ne hpn), if_neg (fun e => up_ne hpn e.symm)]
              omega
            · rw [updM_other e] at hk
              have := hJ.cnt k a u hk
              unfold at1 at this
              rw [if_neg e] at this
              by_cases e2 : (upN p).1 = k
              · rw [if_pos e2, if_pos e2.symm]; omega
              · rw [if_neg e2, if_neg (fun e => e2 e.symm)]; omega
          · rw [cnt_add hhp hpn]
            unfold at1
            by_cases e : k = p
            · subst e
              rw [updM_self] at hm
              cases hm
            · rw [updM_other e] at hm
              have := hJ.no k hk hm
              unfold at1 at this
              rw [if_neg e] at this
              by_cases e2 : (upN p).1 = k
              · rw [if_pos e2, if_pos e2.symm]; omega
              · rw [if_neg e2, if_neg (fun e => e2 e.symm)]; omega
        obtain ⟨h', i1, i2, i3, i4⟩ := need_inv t _ _ p hpn (by omega) (by simp) hJ'
        refine ⟨h', i1, fun c hc => ?_, fun k a u hk => ?_, fun k hk => ?_⟩
        · rw [i2 c hc, beq_eq_false_iff_ne.2 (by have := (metasN_neg p hpm).1; omega), Bool.or_false]
        · rcases i3 k a u hk with ⟨u', h3⟩ | ⟨h3, h4⟩
          · by_cases e : k = p
            · subst e
              rw [updM_self] at h3
              obtain ⟨rfl, rfl⟩ := Prod.mk.inj (Option.some.inj h3)
              exact .inr ⟨hmp, rfl⟩
            · rw [updM_other e] at h3
              exact .inl ⟨u', h3⟩
          · by_cases e : k = p
            · subst e
              rw [updM_self] at h3
              cases h3
            · rw [updM_other e] at h3
              exact .inr ⟨h3, h4⟩
        · refine i4 k ?_
          by_cases e : k = p
          · subst e; rw [updM_self]; rfl
          · rw [updM_other e]; exact hk
end Go.Proofs.YtklamgijikcnaaaDoor
