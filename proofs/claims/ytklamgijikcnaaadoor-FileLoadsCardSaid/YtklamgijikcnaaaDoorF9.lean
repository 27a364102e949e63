/- .. what leave makes of it; the blocks of pointers that are there are those on the ways to data with addresses. -/
import Derived.Test.YtklamgijikcnaaaDoorF8
namespace Go.Proofs.YtklamgijikcnaaaDoor
open Go.RowKit

theorem countP_del {l : List Int} (hn : l.Nodup) (h : Int → Bool) {p : Int} (hp : h p = true) : l.countP h = l.countP (fun c => h c && !(c == p)) + if p ∈ l then 1 else 0 := by
  have h1 := countP_add hn (fun c => h c && !(c == p)) (p := p) (by simp)
  have e : (fun c => (h c && !(c == p)) || c == p) = h := by
    funext c
    by_cases e : c = p
    · subst e; simp [hp]
    · rw [beq_eq_false_iff_ne.2 e]; simp
  rw [e] at h1
  exact h1
theorem cnt_del {h : Int → Bool} {p k : Int} (hp : h p = true) (hk : p ∈ nodesN) : cntN h k = cntN (fun c => h c && !(c == p)) k + if (upN p).1 = k then 1 else 0 := by
  unfold cntN
  rw [countP_del (l := kidsN k) (nodesN_nodup.sublist List.filter_sublist) h hp]
  by_cases e : (upN p).1 = k
  · rw [if_pos e, if_pos (mem_kids.2 ⟨hk, e⟩)]
  · rw [if_neg e, if_neg fun hm => e (mem_kids.1 hm).2]
def adrM (m : MM) (k : Int) : Int := ((m k).map (·.1)).getD 0
theorem leave_inv : ∀ (t : Nat) (h : Int → Bool) (m : MM) (n : Int), n ∈ nodesN → 4 ≤ lvlN n + t → JM h m (at1 (upN n).1 1) →
    ∃ h', JM h' (leaveM t m n).1 (fun _ => 0) ∧ (∀ c, 0 ≤ c → h' c = h c) ∧ (∀ k a u, (leaveM t m n).1 k = some (a, u) → ∃ u', m k = some (a, u')) ∧
      ∃ R : List Int, R.Nodup ∧ (∀ k, k ∈ R ↔ (m k).isSome = true ∧ (leaveM t m n).1 k = none) ∧ (leaveM t m n).2 = R.flatMap (fun k => toldL (adrM m k))
  | 0, h, m, n, hn, ht, _ => by have := node_lvl hn; omega
  | t + 1, h, m, n, hn, ht, hJ => by
    unfold leaveM
    by_cases h6 : (upN n).1 = 600
    · rw [if_pos h6]
      refine ⟨h, ⟨hJ.has, hJ.dom, fun k a u hk => ?_, fun k hk hm => ?_⟩, fun _ _ => rfl, fun k a u hk => ⟨u, hk⟩, [], List.nodup_nil, fun k => ?_, rfl⟩
      · have := hJ.cnt k a u hk
        have hd := hJ.dom k _ hk
        rw [h6] at this
        unfold at1 at this
        rw [if_neg (fun e : k = 600 => off600 (e ▸ hd))] at this
        exact this
      · have := hJ.no k hk hm
        rw [h6] at this
        unfold at1 at this
        rw [if_neg (fun e : k = 600 => off600 (e ▸ hk))] at this
        exact this
      · simp only [List.not_mem_nil, false_iff]
        rintro ⟨h1, h2⟩
        rw [h2] at h1; cases h1
    · rw [if_neg h6]
      obtain ⟨hpm, hpl⟩ := (node_up hn).resolve_left h6
      generalize hp : (upN n).1 = p at *
      cases hmp : m p with
      | none =>
        have := hJ.no p hpm hmp
        unfold at1 at this
        rw [if_pos rfl] at this
        omega
      | some v =>
        obtain ⟨a, u⟩ := v
        have h1 := hJ.cnt p a u hmp
        unfold at1 at h1
        rw [if_pos rfl] at h1
        dsimp only
        by_cases hu : 0 < u - 1
        · rw [if_pos hu]
          dsimp only
          refine ⟨h, ⟨fun k hk => ?_, fun k v hk => ?_, fun k a' u' hk => ?_, fun k hk hm => ?_⟩, fun _ _ => rfl, fun k a' u' hk => ?_, [], List.nodup_nil, fun k => ?_, rfl⟩
          · by_cases e : k = p
            · rw [e, updM_self, hJ.has p hpm, hmp]; rfl
            · rw [updM_other e]; exact hJ.has k hk
          · by_cases e : k = p
            · rw [e]; exact hpm
            · simp only [updM_other e] at hk; exact hJ.dom k v hk
          · by_cases e : k = p
            · subst e
              simp only [updM_self] at hk
              obtain ⟨rfl, rfl⟩ := Prod.mk.inj (Option.some.inj hk)
              omega
            · simp only [updM_other e] at hk
              have := hJ.cnt k a' u' hk
              unfold at1 at this
              rw [if_neg e] at this
              exact this
          · by_cases e : k = p
            · subst e
              simp only [updM_self] at hm
              cases hm
            · simp only [updM_other e] at hm
              have := hJ.no k hk hm
              unfold at1 at this
              rw [if_neg e] at this
              exact this
          · by_cases e : k = p
            · subst e
              simp only [updM_self] at hk
              obtain ⟨rfl, rfl⟩ := Prod.mk.inj (Option.some.inj hk)
              exact ⟨u, hmp⟩
            · simp only [updM_other e] at hk
              exact ⟨u', hk⟩
          · simp only [List.not_mem_nil, false_iff]
            rintro ⟨h2, h3⟩
            by_cases e : k = p
            · subst e; simp only [updM_self] at h3; cases h3
            · simp only [updM_other e] at h3
              rw [h3] at h2; cases h2
        · rw [if_neg hu]
          dsimp only
          have hpn : p ∈ nodesN := mem_nodes.2 (.inr hpm)
          have hhp : h p = true := by rw [hJ.has p hpm, hmp]; rfl
          have hJ' : JM (fun c => h c && !(c == p)) (updM m p none) (at1 (upN p).1 1) := by
            refine ⟨fun k hk => ?_, fun k v hk => ?_, fun k a' u' hk => ?_, fun k hk hm => ?_⟩
            · by_cases e : k = p
              · rw [e, updM_self]; simp
              · rw [updM_other e, beq_eq_false_iff_ne.2 e, Bool.not_false, Bool.and_true]; exact hJ.has k hk
            · by_cases e : k = p
              · rw [e]; exact hpm
              · rw [updM_other e] at hk; exact hJ.dom k v hk
            · by_cases e : k = p
              · subst e; rw [updM_self] at hk; cases hk
              · rw [updM_other e] at hk
                have h2 := hJ.cnt k a' u' hk
                have h3 := cnt_del (k := k) hhp hpn
                unfold at1 at h2 ⊢
                rw [if_neg e] at h2
                by_cases e2 : (upN p).1 = k
                · rw [if_pos e2] at h3; rw [if_pos e2.symm]; omega
                · rw [if_neg e2] at h3; rw [if_neg (fun e => e2 e.symm)]; omega
            · have h3 := cnt_del (k := k) hhp hpn
              unfold at1
              by_cases e : k = p
              · subst e
                rw [if_neg (up_ne hpn)] at h3
                rw [if_neg (fun e => up_ne hpn e.symm)]
                omega
              · rw [updM_other e] at hm
                have h2 := hJ.no k hk hm
                unfold at1 at h2
                rw [if_neg e] at h2
                by_cases e2 : (upN p).1 = k
                · rw [if_pos e2] at h3; omega
                · rw [if_neg e2] at h3; rw [if_neg (fun e => e2 e.symm)]; omega
          obtain ⟨h', i1, i2, i3, R, i4, i5, i6⟩ := leave_inv t _ _ p hpn (by omega) hJ'
          have hpR : p ∉ R := fun hx => by have := ((i5 p).1 hx).1; rw [updM_self] at this; cases this
          refine ⟨h', i1, fun c hc => ?_, fun k a' u' hk => ?_, p :: R, List.nodup_cons.2 ⟨hpR, i4⟩, fun k => ?_, ?_⟩
          · rw [i2 c hc, beq_eq_false_iff_ne.2 (by have := (metasN_neg p hpm).1; omega), Bool.not_false, Bool.and_true]
          · obtain ⟨u2, h3⟩ := i3 k a' u' hk
            by_cases e : k = p
            · subst e; rw [updM_self] at h3; cases h3
            · rw [updM_other e] at h3; exact ⟨u2, h3⟩
          · rw [List.mem_cons, i5]
            by_cases e : k = p
            · subst e
              refine ⟨fun _ => ⟨by rw [hmp]; rfl, ?_⟩, fun _ => .inl rfl⟩
              cases hq : (leaveM t (updM m k none) k).1 k with
              | none => rfl
              | some v =>
                obtain ⟨u2, h3⟩ := i3 k v.1 v.2 hq
                rw [updM_self] at h3; cases h3
            · rw [updM_other e]
              exact ⟨fun h => h.resolve_left e, fun h => .inr h⟩
          · rw [i6, List.flatMap_cons]
            congr 1
            · unfold adrM; rw [hmp]; rfl
            · have hc : ∀ (L : List Int), (∀ k ∈ L, k ≠ p) → L.flatMap (fun k => toldL (adrM (updM m p none) k)) = L.flatMap (fun k => toldL (adrM m k)) := fun L hL => by
                induction L with
                | nil => rfl
                | cons x L ih =>
                  rw [List.flatMap_cons, List.flatMap_cons, ih fun k hk => hL k (List.mem_cons_of_mem _ hk)]
                  congr 2
                  unfold adrM
                  rw [updM_other (hL x List.mem_cons_self)]
              exact hc R fun k hk e => hpR (e ▸ hk)
end Go.Proofs.YtklamgijikcnaaaDoor
