/- Plainly: a map whose blocks of pointers all have addresses, unlike ones, is loaded again from its Root and its Blocks. -/
import Derived.Test.YtklamgijikcnaaaDoorF40
namespace Go.Proofs.YtklamgijikcnaaaDoor
open Go.RowKit

theorem bytesN_at : ∀ {ws : List Int} {i j : Nat} {x : Int}, ws[i]? = some x → j < 4 → (bytesN ws).getD (4 * i + j) 0 = (fourN x).getD j 0
  | [], i, j, x, h, _ => by simp at h
  | y :: ws, 0, j, x, h, hj => by
    simp at h
    subst h
    unfold bytesN
    rw [List.flatMap_cons, List.getD_eq_getElem?_getD, List.getElem?_append_left (by simp [fourN]; omega), ← List.getD_eq_getElem?_getD, Nat.mul_zero, Nat.zero_add]
  | y :: ws, i + 1, j, x, h, hj => by
    have := bytesN_at (ws := ws) (i := i) (j := j) (by simpa using h) hj
    unfold bytesN at this ⊢
    rw [List.flatMap_cons, List.getD_eq_getElem?_getD, List.getElem?_append_right (by simp [fourN]; omega), ← this, List.getD_eq_getElem?_getD]
    congr 2
    simp [fourN]; omega
theorem words_bytes {ws : List Int} (hl : ws.length = 16) (hb : ∀ x ∈ ws, 0 ≤ x ∧ x < 4294967296) : wordsN (bytesN ws) = ws := by
  refine List.ext_getElem? fun i => ?_
  by_cases hi : i < 16
  · obtain ⟨x, hx⟩ : ∃ x, ws[i]? = some x := ⟨_, List.getElem?_eq_getElem (by omega)⟩
    obtain ⟨h0, h1⟩ := hb x (List.mem_of_getElem? hx)
    unfold wordsN
    rw [List.getElem?_map, List.getElem?_range hi, hx]
    have e0 := bytesN_at hx (j := 0) (by omega)
    have e1 := bytesN_at hx (j := 1) (by omega)
    have e2 := bytesN_at hx (j := 2) (by omega)
    have e3 := bytesN_at hx (j := 3) (by omega)
    show some (wordN (bytesN ws) i) = some x
    unfold wordN
    rw [show 4 * i = 4 * i + 0 from rfl, e0, show 4 * i + 0 + 1 = 4 * i + 1 from rfl, e1, show 4 * i + 0 + 2 = 4 * i + 2 from rfl, e2, show 4 * i + 0 + 3 = 4 * i + 3 from rfl, e3]
    congr 1
    simp [fourN]
    omega
  · rw [List.getElem?_eq_none (by unfold wordsN; simp; omega), List.getElem?_eq_none (by omega)]
/-- The blocks tell the map. -/
structure Tells1 (d : Int → Int) (m : MM) (rd : Int → Option (List Int)) : Prop where
  inv : Inv d m
  bd : ∀ c, 0 ≤ adr d m c ∧ adr d m c < 4096
  nz : ∀ k, (m k).isSome = true → adr d m k ≠ 0
  rd : ∀ k, (m k).isSome = true → rd (adr d m k) = some (bytesN (ptrsN d m k))
section
variable {d : Int → Int} {m : MM} {rd : Int → Option (List Int)}
theorem Tells1.words (h : Tells1 d m rd) (k : Int) : wordsN (bytesN (ptrsN d m k)) = ptrsN d m k :=
  words_bytes (by unfold ptrsN; simp) fun x hx => by
    unfold ptrsN at hx
    obtain ⟨s, _, rfl⟩ := List.mem_map.1 hx
    cases childN k s with
    | none => exact ⟨Int.le_refl _, by show (0 : Int) < _; omega⟩
    | some c => have := h.bd c; exact ⟨this.1, by show adr d m c < _; omega⟩
theorem ptrsN_getD {k : Int} {s : Nat} (hs : s < 16) : (ptrsN d m k).getD s 0 = match childN k s with | some c => adr d m c | none => 0 := by
  rw [List.getD_eq_getElem?_getD, ptrsN_at d m k hs]; rfl
/-- A node that is told is data, or a block of pointers that is there. -/
theorem adr_there (h : Inv d m) {c : Int} (hc : adr d m c ≠ 0) : (0 ≤ c ∧ c < 600 ∧ d c ≠ 0) ∨ (c < 0 ∧ (m c).isSome = true) := by
  by_cases h0 : 0 ≤ c
  · rw [adr_data h0] at hc
    exact .inl ⟨h0, (h.d0 c hc).2, hc⟩
  · rw [adr_meta (by omega)] at hc
    refine .inr ⟨by omega, ?_⟩
    unfold adrM at hc
    cases hq : m c with
    | none => rw [hq] at hc; exact absurd rfl hc
    | some v => rfl
def upOk (c : Int) : Bool := decide (childN (upN c).1 (upN c).2.toNat = some c) && decide (0 ≤ (upN c).2) && decide ((upN c).2 < (if (upN c).1 = 600 then 9 else 16))
theorem upOk_data : ∀ i : Nat, i < 600 → upOk (i : Int) = true := by decide +kernel
theorem upOk_meta : ∀ k ∈ metasN, upOk k = true := by decide +kernel
theorem up_child {c : Int} (hc : c ∈ nodesN) : ∃ s : Nat, s < (if (upN c).1 = 600 then 9 else 16) ∧ childN (upN c).1 s = some c ∧ upN c = ((upN c).1, (s : Int)) := by
  have h : upOk c = true := by
    rcases mem_nodes.1 hc with ⟨h0, h1⟩ | h
    · obtain ⟨i, rfl⟩ := Int.eq_ofNat_of_zero_le h0
      exact upOk_data i (by omega)
    · exact upOk_meta c h
  unfold upOk at h
  simp only [Bool.and_eq_true, decide_eq_true_eq] at h
  obtain ⟨⟨h1, h2⟩, h3⟩ := h
  refine ⟨(upN c).2.toNat, ?_, h1, ?_⟩
  · split at h3 <;> split <;> first | omega | contradiction
  · rw [Int.toNat_of_nonneg h2]
theorem hasB_adr (h : Tells1 d m rd) {c : Int} (hc : hasB d m c = true) : adr d m c ≠ 0 := by
  unfold hasB at hc
  rw [Bool.or_eq_true, decide_eq_true_eq] at hc
  rcases hc with hc | hc
  · rw [adr_data (h.inv.d0 c hc).1]; exact hc
  · exact h.nz c hc
theorem adr_hasB (h : Inv d m) {c : Int} (hc : adr d m c ≠ 0) : hasB d m c = true ∧ c ∈ nodesN := by
  unfold hasB
  rcases adr_there h hc with ⟨h0, h1, h2⟩ | ⟨_, h1⟩
  · exact ⟨by rw [decide_eq_true h2]; rfl, mem_nodes.2 (.inl ⟨h0, h1⟩)⟩
  · exact ⟨by rw [h1]; simp, mem_nodes.2 (.inr (h.metas h1))⟩
/-- A block that is there has a child that is told. -/
theorem kid_some (h : Tells1 d m rd) {k : Int} (hk : (m k).isSome = true) : ∃ s, s < 16 ∧ ∃ c, childN k s = some c ∧ adr d m c ≠ 0 := by
  obtain ⟨⟨a, u⟩, hm⟩ := Option.isSome_iff_exists.1 hk
  obtain ⟨h1, h2⟩ := h.inv.j.cnt k a u hm
  have hcnt : 0 < (kidsN k).countP (hasB d m) := by unfold cntN at h1; omega
  obtain ⟨c, hc, hb⟩ := List.countP_pos_iff.1 hcnt
  obtain ⟨hcn, hcu⟩ := mem_kids.1 hc
  obtain ⟨s, hs, hch, _⟩ := up_child hcn
  have hk6 : ¬ k = 600 := fun e => off600 (e ▸ h.inv.metas hk)
  rw [hcu, if_neg hk6] at hs
  rw [hcu] at hch
  exact ⟨s, hs, c, hch, hasB_adr h hb⟩
theorem gN_tells (h : Tells1 d m rd) : ∀ (f : Nat) (c : Int), lvlN c < f → adr d m c ≠ 0 → gN rd f c (adr d m c) = true := by
  intro f
  induction f with
  | zero => intro c hl _; omega
  | succ f ih =>
    intro c hl hc
    have hb := h.bd c
    rcases adr_there h.inv hc with ⟨h0, _, _⟩ | ⟨hneg, hm⟩
    · exact gN_data rd h0 hb.2
    · rw [gN_meta rd hneg hb.2, h.rd c hm]
      have hcm := h.inv.metas hm
      simp only [h.words c, Bool.and_eq_true, decide_eq_true_eq]
      refine ⟨by rw [bytesN_length]; unfold ptrsN; simp, ?_, ?_⟩
      · obtain ⟨s, hs, c', hc', ha'⟩ := kid_some h hm
        unfold anyP
        refine List.any_eq_true.2 ⟨adr d m c', ?_, by simpa using ha'⟩
        refine List.mem_iff_getElem?.2 ⟨s, ?_⟩
        rw [List.getElem?_take_of_lt hs, ptrsN_at d m c hs, hc']
      · unfold rowOk
        refine List.all_eq_true.2 fun s hs => ?_
        have hs := List.mem_range.1 hs
        unfold okS
        rw [ptrsN_getD hs]
        cases hc' : childN c s with
        | none => simp
        | some c' =>
          by_cases h0 : adr d m c' = 0
          · simp [h0]
          · obtain ⟨_, hk⟩ := child_kind (.inr ⟨hcm, rfl, rfl⟩) hs hc'
            have hlv : lvlN c' < lvlN c := by
              rcases hk with ⟨k0, k1⟩ | hk
              · have := (metas_find c hcm).2.1
                have : lvlN c' = 0 := by
                  obtain ⟨i, rfl⟩ := Int.eq_ofNat_of_zero_le k0
                  unfold lvlN
                  rw [findN_data (by omega)]; rfl
                omega
              · exact hk.2
            have := ih c' (by omega) h0
            simp [this]
end
end Go.Proofs.YtklamgijikcnaaaDoor
