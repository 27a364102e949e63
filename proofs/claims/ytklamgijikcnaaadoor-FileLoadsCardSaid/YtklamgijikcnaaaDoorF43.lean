/- Plainly: a map whose blocks of pointers all have addresses, unlike ones, is loaded again from its Root and its Blocks. -/
/- .. what is read, each once; the map that is loaded is the map. -/
import Derived.Test.YtklamgijikcnaaaDoorF40
import Derived.Test.YtklamgijikcnaaaDoorF27
namespace Go.Proofs.YtklamgijikcnaaaDoor
open Go.RowKit

theorem bytesN_at : ∀ {ws : List Int} {i j : Nat} {x : Int}, ws[i]? = some x → j < 4 → (bytesN ws).getD (4 * i + j) 0 = (fourN x).getD j 0
  | [], i, j, x, h, _ => by simp at h
  | y :: ws, 0, j, x, h, hj => by
    simp at h
    subst h
    unfold bytesN
    rw [List.flatMap_cons, List.getD_eq_getElem?_getD, List.getElem?_append_left (by simp [fourN]; omega), ← List.getD_eq_getElem?_getD, Nat.mul_zero, Nat.zero_add]
  | y :: ws, i + 1, j, x, h, hj => by
    have := bytesN_at (ws := ws) (i := i) (j := j) (by simpa using h) hj
    unfold bytesN at this ⊢
    rw [List.flatMap_cons, List.getD_eq_getElem?_getD, List.getElem?_append_right (by simp [fourN]; omega), ← this, List.getD_eq_getElem?_getD]
    congr 2
    simp [fourN]; omega
theorem words_bytes {ws : List Int} (hl : ws.length = 16) (hb : ∀ x ∈ ws, 0 ≤ x ∧ x < 4294967296) : wordsN (bytesN ws) = ws := by
  refine List.ext_getElem? fun i => ?_
  by_cases hi : i < 16
  · obtain ⟨x, hx⟩ : ∃ x, ws[i]? = some x := ⟨_, List.getElem?_eq_getElem (by omega)⟩
    obtain ⟨h0, h1⟩ := hb x (List.mem_of_getElem? hx)
    unfold wordsN
    rw [List.getElem?_map, List.getElem?_range hi, hx]
    have e0 := bytesN_at hx (j := 0) (by omega)
    have e1 := bytesN_at hx (j := 1) (by omega)
    have e2 := bytesN_at hx (j := 2) (by omega)
    have e3 := bytesN_at hx (j := 3) (by omega)
    show some (wordN (bytesN ws) i) = some x
    unfold wordN
    rw [show 4 * i = 4 * i + 0 from rfl, e0, show 4 * i + 0 + 1 = 4 * i + 1 from rfl, e1, show 4 * i + 0 + 2 = 4 * i + 2 from rfl, e2, show 4 * i + 0 + 3 = 4 * i + 3 from rfl, e3]
    congr 1
    simp [fourN]
    omega
  · rw [List.getElem?_eq_none (by unfold wordsN; simp; omega), List.getElem?_eq_none (by omega)]
/-- The blocks tell the map. -/
structure Tells1 (d : Int → Int) (m : MM) (rd : Int → Option (List Int)) : Prop where
  inv : Inv d m
  bd : ∀ c, 0 ≤ adr d m c ∧ adr d m c < 4096
  nz : ∀ k, (m k).isSome = true → adr d m k ≠ 0
  rd : ∀ k, (m k).isSome = true → rd (adr d m k) = some (bytesN (ptrsN d m k))
section
variable {d : Int → Int} {m : MM} {rd : Int → Option (List Int)}
theorem Tells1.words (h : Tells1 d m rd) (k : Int) : wordsN (bytesN (ptrsN d m k)) = ptrsN d m k :=
  words_bytes (by unfold ptrsN; simp) fun x hx => by
    unfold ptrsN at hx
    obtain ⟨s, _, rfl⟩ := List.mem_map.1 hx
    cases childN k s with
    | none => exact ⟨Int.le_refl _, by show (0 : Int) < _; omega⟩
    | some c => have := h.bd c; exact ⟨this.1, by show adr d m c < _; omega⟩
theorem ptrsN_getD {k : Int} {s : Nat} (hs : s < 16) : (ptrsN d m k).getD s 0 = match childN k s with | some c => adr d m c | none => 0 := by
  rw [List.getD_eq_getElem?_getD, ptrsN_at d m k hs]; rfl
/-- A node that is told is data, or a block of pointers that is there. -/
theorem adr_there (h : Inv d m) {c : Int} (hc : adr d m c ≠ 0) : (0 ≤ c ∧ c < 600 ∧ d c ≠ 0) ∨ (c < 0 ∧ (m c).isSome = true) := by
  by_cases h0 : 0 ≤ c
  · rw [adr_data h0] at hc
    exact .inl ⟨h0, (h.d0 c hc).2, hc⟩
  · rw [adr_meta (by omega)] at hc
    refine .inr ⟨by omega, ?_⟩
    unfold adrM at hc
    cases hq : m c with
    | none => rw [hq] at hc; exact absurd rfl hc
    | some v => rfl
def upOk (c : Int) : Bool := decide (childN (upN c).1 (upN c).2.toNat = some c) && decide (0 ≤ (upN c).2) && decide ((upN c).2 < (if (upN c).1 = 600 then 9 else 16))
theorem upOk_data : ∀ i : Nat, i < 600 → upOk (i : Int) = true := by decide +kernel
theorem upOk_meta : ∀ k ∈ metasN, upOk k = true := by decide +kernel
theorem up_child {c : Int} (hc : c ∈ nodesN) : ∃ s : Nat, s < (if (upN c).1 = 600 then 9 else 16) ∧ childN (upN c).1 s = some c ∧ upN c = ((upN c).1, (s : Int)) := by
  have h : upOk c = true := by
    rcases mem_nodes.1 hc with ⟨h0, h1⟩ | h
    · obtain ⟨i, rfl⟩ := Int.eq_ofNat_of_zero_le h0
      exact upOk_data i (by omega)
    · exact upOk_meta c h
  unfold upOk at h
  simp only [Bool.and_eq_true, decide_eq_true_eq] at h
  obtain ⟨⟨h1, h2⟩, h3⟩ := h
  refine ⟨(upN c).2.toNat, ?_, h1, ?_⟩
  · split at h3 <;> split <;> first | omega | contradiction
  · rw [Int.toNat_of_nonneg h2]
theorem hasB_adr (h : Tells1 d m rd) {c : Int} (hc : hasB d m c = true) : adr d m c ≠ 0 := by
  unfold hasB at hc
  rw [Bool.or_eq_true, decide_eq_true_eq] at hc
  rcases hc with hc | hc
  · rw [adr_data (h.inv.d0 c hc).1]; exact hc
  · exact h.nz c hc
theorem adr_hasB (h : Inv d m) {c : Int} (hc : adr d m c ≠ 0) : hasB d m c = true ∧ c ∈ nodesN := by
  unfold hasB
  rcases adr_there h hc with ⟨h0, h1, h2⟩ | ⟨_, h1⟩
  · exact ⟨by rw [decide_eq_true h2]; rfl, mem_nodes.2 (.inl ⟨h0, h1⟩)⟩
  · exact ⟨by rw [h1]; simp, mem_nodes.2 (.inr (h.metas h1))⟩
/-- A block that is there has a child that is told. -/
theorem kid_some (h : Tells1 d m rd) {k : Int} (hk : (m k).isSome = true) : ∃ s, s < 16 ∧ ∃ c, childN k s = some c ∧ adr d m c ≠ 0 := by
  obtain ⟨⟨a, u⟩, hm⟩ := Option.isSome_iff_exists.1 hk
  obtain ⟨h1, h2⟩ := h.inv.j.cnt k a u hm
  have hcnt : 0 < (kidsN k).countP (hasB d m) := by unfold cntN at h1; omega
  obtain ⟨c, hc, hb⟩ := List.countP_pos_iff.1 hcnt
  obtain ⟨hcn, hcu⟩ := mem_kids.1 hc
  obtain ⟨s, hs, hch, _⟩ := up_child hcn
  have hk6 : ¬ k = 600 := fun e => off600 (e ▸ h.inv.metas hk)
  rw [hcu, if_neg hk6] at hs
  rw [hcu] at hch
  exact ⟨s, hs, c, hch, hasB_adr h hb⟩
theorem gN_tells (h : Tells1 d m rd) : ∀ (f : Nat) (c : Int), lvlN c < f → adr d m c ≠ 0 → gN rd f c (adr d m c) = true := by
  intro f
  induction f with
  | zero => intro c hl _; omega
  | succ f ih =>
    intro c hl hc
    have hb := h.bd c
    rcases adr_there h.inv hc with ⟨h0, _, _⟩ | ⟨hneg, hm⟩
    · exact gN_data rd h0 hb.2
    · rw [gN_meta rd hneg hb.2, h.rd c hm]
      have hcm := h.inv.metas hm
      simp only [h.words c, Bool.and_eq_true, decide_eq_true_eq]
      refine ⟨by rw [bytesN_length]; unfold ptrsN; simp, ?_, ?_⟩
      · obtain ⟨s, hs, c', hc', ha'⟩ := kid_some h hm
        unfold anyP
        refine List.any_eq_true.2 ⟨adr d m c', ?_, by simpa using ha'⟩
        refine List.mem_iff_getElem?.2 ⟨s, ?_⟩
        rw [List.getElem?_take_of_lt hs, ptrsN_at d m c hs, hc']
      · unfold rowOk
        refine List.all_eq_true.2 fun s hs => ?_
        have hs := List.mem_range.1 hs
        unfold okS
        rw [ptrsN_getD hs]
        cases hc' : childN c s with
        | none => simp
        | some c' =>
          by_cases h0 : adr d m c' = 0
          · simp [h0]
          · obtain ⟨_, hk⟩ := child_kind (.inr ⟨hcm, rfl, rfl⟩) hs hc'
            have hlv : lvlN c' < lvlN c := by
              rcases hk with ⟨k0, k1⟩ | hk
              · have := (metas_find c hcm).2.1
                have : lvlN c' = 0 := by
                  obtain ⟨i, rfl⟩ := Int.eq_ofNat_of_zero_le k0
                  unfold lvlN
                  rw [findN_data (by omega)]; rfl
                omega
              · exact hk.2
            have := ih c' (by omega) h0
            simp [this]
end
end Go.Proofs.YtklamgijikcnaaaDoor

namespace Go.Proofs.YtklamgijikcnaaaDoor
open Go.RowKit

inductive Und (c : Int) : Int → Prop
  | self : Und c c
  | up {x : Int} : x ∈ nodesN → (upN x).1 ≠ 600 → Und c (upN x).1 → Und c x
theorem Und.top {c x : Int} (h : Und c x) : x = c ∨ (c ≠ 600 ∧ ∃ c1, c1 ∈ nodesN ∧ (upN c1).1 = c ∧ Und c1 x) := by
  induction h with
  | self => exact .inl rfl
  | up hx h6 _ ih =>
    rcases ih with ih | ⟨h6', c1, h1, h2, h3⟩
    · exact .inr ⟨by rw [← ih]; exact h6, _, hx, ih, .self⟩
    · exact .inr ⟨h6', c1, h1, h2, .up hx h6 h3⟩
theorem Und.lift {c c1 x : Int} (h : Und c1 x) (h1 : c1 ∈ nodesN) (hu : (upN c1).1 = c) (h6 : c ≠ 600) : Und c x := by
  induction h with
  | self => exact .up h1 (by rw [hu]; exact h6) (by rw [hu]; exact .self)
  | up hx h6 _ ih => exact .up hx h6 ih
theorem Und.lvl {c x : Int} (h : Und c x) : x = c ∨ lvlN x < lvlN c := by
  induction h with
  | self => exact .inl rfl
  | @up x hx h6 _ ih =>
    right
    have := (node_up hx).resolve_left h6
    rcases ih with ih | ih
    · rw [← ih]; omega
    · omega
theorem Und.chain {c c' x : Int} (h : Und c x) (h' : Und c' x) : Und c c' ∨ Und c' c := by
  induction h with
  | self => exact .inr h'
  | @up x hx h6 h ih =>
    cases h' with
    | self => exact .inl (.up hx h6 h)
    | up _ _ h' => exact ih h'
theorem Und.sib {c c' x : Int} (h : Und c x) (h' : Und c' x) (hc : c ∈ nodesN) (hc' : c' ∈ nodesN) (hu : (upN c).1 = (upN c').1) : c = c' := by
  have key : ∀ {a b : Int}, a ∈ nodesN → (upN a).1 = (upN b).1 → Und a b → a = b := fun {a b} ha he hab => by
    cases hab with
    | self => rfl
    | up hb h6 h =>
      have h1 := h.lvl
      rw [← he] at h1 h6
      have h2 := (node_up ha).resolve_left h6
      rcases h1 with h1 | h1
      · exact absurd h1 (up_ne ha)
      · omega
  rcases h.chain h' with h | h
  · exact key hc hu h
  · exact (key hc' hu.symm h).symm
theorem und_root : ∀ (t : Nat) (x : Int), x ∈ nodesN → 4 ≤ lvlN x + t → ∃ c, c ∈ nodesN ∧ (upN c).1 = 600 ∧ Und c x := by
  intro t
  induction t with
  | zero => intro x hx h; have := node_lvl hx; omega
  | succ t ih =>
    intro x hx h
    rcases node_up hx with h6 | ⟨h1, h2⟩
    · exact ⟨x, hx, h6, .self⟩
    · have h6 : (upN x).1 ≠ 600 := fun e => off600 (e ▸ h1)
      obtain ⟨c, hc, hu, hd⟩ := ih _ (mem_nodes.2 (.inr h1)) (by omega)
      exact ⟨c, hc, hu, .up hx h6 hd⟩
section
variable {d : Int → Int} {m : MM} {rd : Int → Option (List Int)}
theorem und_adr (h : Tells1 d m rd) {c x : Int} (hu : Und c x) (hx : adr d m x ≠ 0) : adr d m c ≠ 0 := by
  induction hu with
  | self => exact hx
  | up hx' h6 _ ih => exact ih (h.nz _ (h.inv.up hx' (adr_hasB h.inv hx).1 h6))
/-- A child of a block that is there, as its row of pointers tells it. -/
theorem kid_at (_h : Inv d m) {n : Int} {k top s : Nat} {c : Int} (hn : n = 600 ∧ k = 9 ∧ top = 4 ∨ n ∈ metasN ∧ k = 16 ∧ top = lvlN n) (hs : s < k) (hc : childN n s = some c) : c ∈ nodesN ∧ (upN c).1 = n ∧ upN c = (n, (s : Int)) ∧ lvlN c < top := by
  obtain ⟨h1, h2⟩ := child_kind hn hs hc
  refine ⟨mem_nodes.2 (h2.imp id fun h => h.1), by rw [h1], h1, ?_⟩
  rcases h2 with ⟨k0, k1⟩ | h2
  · have : lvlN c = 0 := by
      obtain ⟨i, rfl⟩ := Int.eq_ofNat_of_zero_le k0
      unfold lvlN
      rw [findN_data (by omega)]; rfl
    rcases hn with ⟨_, _, rfl⟩ | ⟨hn, _, rfl⟩
    · omega
    · have := (metas_find n hn).2.1; omega
  · exact h2.2
theorem eN_mem (h : Tells1 d m rd) : ∀ (f : Nat) (c : Int), adr d m c ≠ 0 → ∀ e ∈ eN rd f c (adr d m c), e.2 = adr d m e.1 := by
  intro f
  induction f with
  | zero => intro c _ e he; unfold eN at he; cases he
  | succ f ih =>
    intro c hc e he
    rcases adr_there h.inv hc with ⟨h0, _, _⟩ | ⟨hneg, hm⟩
    · rw [eN_data rd h0, List.mem_singleton] at he
      rw [he]
    · rw [eN_meta rd hneg (h.rd c hm), h.words c, List.mem_append, List.mem_singleton] at he
      rcases he with he | rfl
      · unfold rowE at he
        obtain ⟨s, hs, he⟩ := List.mem_flatMap.1 he
        unfold eS at he
        rw [ptrsN_getD (List.mem_range.1 hs)] at he
        cases hc' : childN c s with
        | none => rw [hc'] at he; simp at he
        | some c' =>
          rw [hc'] at he
          by_cases h0 : adr d m c' = 0
          · rw [if_pos h0] at he; cases he
          · rw [if_neg h0] at he; exact ih c' h0 e he
      · rfl
theorem eN_cover (h : Tells1 d m rd) : ∀ (f : Nat) (c x : Int), c ∈ nodesN → lvlN c < f → Und c x → adr d m x ≠ 0 → (x, adr d m x) ∈ eN rd f c (adr d m c) := by
  intro f
  induction f with
  | zero => intro c x _ hl; omega
  | succ f ih =>
    intro c x hcn hl hu hx
    have hc := und_adr h hu hx
    rcases adr_there h.inv hc with ⟨h0, h1, _⟩ | ⟨hneg, hm⟩
    · rcases hu.lvl with rfl | hlt
      · rw [eN_data rd h0]; exact List.mem_singleton.2 rfl
      · have : lvlN c = 0 := by
          obtain ⟨i, rfl⟩ := Int.eq_ofNat_of_zero_le h0
          unfold lvlN
          rw [findN_data (by omega)]; rfl
        omega
    · have hcm := h.inv.metas hm
      rw [eN_meta rd hneg (h.rd c hm), h.words c, List.mem_append, List.mem_singleton]
      rcases hu.top with rfl | ⟨h6, c1, h1, h2, h3⟩
      · exact .inr rfl
      · left
        obtain ⟨s, hs, hch, hup⟩ := up_child h1
        rw [h2, if_neg h6] at hs
        rw [h2] at hch
        have hlv := (kid_at h.inv (.inr ⟨hcm, rfl, rfl⟩) hs hch).2.2.2
        have ha := und_adr h h3 hx
        refine mem_rowE (c := c1) hs ?_ hch ?_
        · rw [ptrsN_getD hs, hch]; exact ha
        · rw [ptrsN_getD hs, hch]
          exact ih c1 x h1 (by omega) h3 hx
theorem tN_mem (h : Tells1 d m rd) : ∀ (f : Nat) (c : Int), c ∈ nodesN → adr d m c ≠ 0 → ∀ y ∈ tN rd f c (adr d m c), ∃ k, (m k).isSome = true ∧ adr d m k = y ∧ Und c k := by
  intro f
  induction f with
  | zero => intro c _ _ y hy; unfold tN at hy; cases hy
  | succ f ih =>
    intro c hcn hc y hy
    rcases adr_there h.inv hc with ⟨h0, _, _⟩ | ⟨hneg, hm⟩
    · rw [tN_data rd h0] at hy; cases hy
    · have hcm := h.inv.metas hm
      rw [tN_meta rd hneg (h.rd c hm), h.words c, List.mem_cons] at hy
      rcases hy with rfl | hy
      · exact ⟨c, hm, rfl, .self⟩
      · unfold rowT at hy
        obtain ⟨s, hs, hy⟩ := List.mem_flatMap.1 hy
        have hs := List.mem_range.1 hs
        unfold tS at hy
        rw [ptrsN_getD hs] at hy
        cases hc' : childN c s with
        | none => rw [hc'] at hy; simp at hy
        | some c' =>
          rw [hc'] at hy
          by_cases h0 : adr d m c' = 0
          · rw [if_pos h0] at hy; cases hy
          · rw [if_neg h0] at hy
            obtain ⟨k1, k2, _, _⟩ := kid_at h.inv (.inr ⟨hcm, rfl, rfl⟩) hs hc'
            obtain ⟨k, h1, h2, h3⟩ := ih c' k1 h0 y hy
            exact ⟨k, h1, h2, h3.lift k1 k2 (fun e => off600 (e ▸ hcm))⟩
theorem tN_cover (h : Tells1 d m rd) : ∀ (f : Nat) (c k : Int), c ∈ nodesN → lvlN c < f → Und c k → (m k).isSome = true → adr d m k ∈ tN rd f c (adr d m c) := by
  intro f
  induction f with
  | zero => intro c x _ hl; omega
  | succ f ih =>
    intro c k hcn hl hu hk
    have hx := h.nz k hk
    have hc := und_adr h hu hx
    have hkn := (metasN_neg k (h.inv.metas hk)).1
    rcases adr_there h.inv hc with ⟨h0, h1, _⟩ | ⟨hneg, hm⟩
    · rcases hu.lvl with rfl | hlt
      · omega
      · have : lvlN c = 0 := by
          obtain ⟨i, rfl⟩ := Int.eq_ofNat_of_zero_le h0
          unfold lvlN
          rw [findN_data (by omega)]; rfl
        omega
    · have hcm := h.inv.metas hm
      rw [tN_meta rd hneg (h.rd c hm), h.words c, List.mem_cons]
      rcases hu.top with rfl | ⟨h6, c1, h1, h2, h3⟩
      · exact .inl rfl
      · right
        obtain ⟨s, hs, hch, hup⟩ := up_child h1
        rw [h2, if_neg h6] at hs
        rw [h2] at hch
        have hlv := (kid_at h.inv (.inr ⟨hcm, rfl, rfl⟩) hs hch).2.2.2
        have ha := und_adr h h3 hx
        unfold rowT
        refine List.mem_flatMap.2 ⟨s, List.mem_range.2 hs, ?_⟩
        unfold tS
        rw [ptrsN_getD hs, hch, if_neg ha]
        exact ih c1 k h1 (by omega) h3 hk
theorem rowT_nodup (h : Tells1 d m rd) (hq : UniqA (adr d m)) {f : Nat} {n : Int} {k top : Nat} (l : List Int) (hn : n = 600 ∧ k = 9 ∧ top = 4 ∨ n ∈ metasN ∧ k = 16 ∧ top = lvlN n) (hl : ∀ s, s < k → l.getD s 0 = match childN n s with | some c => adr d m c | none => 0)
    (hin : ∀ c, c ∈ nodesN → adr d m c ≠ 0 → (tN rd f c (adr d m c)).Nodup) : (rowT rd f n l k).Nodup := by
  unfold rowT
  refine List.pairwise_flatMap.2 ⟨fun s hs => ?_, ?_⟩
  · have hs := List.mem_range.1 hs
    unfold tS
    rw [hl s hs]
    cases hc : childN n s with
    | none => simp
    | some c =>
      show List.Nodup (if adr d m c = 0 then [] else tN rd f c (adr d m c))
      split
      · exact List.Pairwise.nil
      · rename_i h0
        exact hin c (kid_at h.inv hn hs hc).1 h0
  · refine (List.pairwise_lt_range (n := k)).imp_of_mem fun {s s'} hs hs' hlt x hx y hy e => ?_
    have hs := List.mem_range.1 hs
    have hs' := List.mem_range.1 hs'
    have key : ∀ {s x}, s < k → x ∈ tS rd f n l s → ∃ c z, childN n s = some c ∧ (m z).isSome = true ∧ adr d m z = x ∧ Und c z := fun {s x} hs hx => by
      unfold tS at hx
      rw [hl s hs] at hx
      cases hc : childN n s with
      | none => rw [hc] at hx; simp at hx
      | some c =>
        rw [hc] at hx
        by_cases h0 : adr d m c = 0
        · rw [if_pos h0] at hx; cases hx
        · rw [if_neg h0] at hx
          obtain ⟨z, h1, h2, h3⟩ := tN_mem h f c (kid_at h.inv hn hs hc).1 h0 x hx
          exact ⟨c, z, rfl, h1, h2, h3⟩
    obtain ⟨c, z, c1, z1, z2, z3⟩ := key hs hx
    obtain ⟨c', z', c1', z1', z2', z3'⟩ := key hs' hy
    have hz : z = z' := hq z z' (h.nz z z1) (by rw [z2, z2', e])
    subst hz
    obtain ⟨a1, a2, a3, _⟩ := kid_at h.inv hn hs c1
    obtain ⟨b1, b2, b3, _⟩ := kid_at h.inv hn hs' c1'
    have := z3.sib z3' a1 b1 (by rw [a2, b2])
    subst this
    rw [a3] at b3
    simp only [Prod.mk.injEq, true_and] at b3
    omega
theorem tN_nodup (h : Tells1 d m rd) (hq : UniqA (adr d m)) : ∀ (f : Nat) (c : Int), c ∈ nodesN → adr d m c ≠ 0 → (tN rd f c (adr d m c)).Nodup := by
  intro f
  induction f with
  | zero => intro c _ _; unfold tN; exact List.Pairwise.nil
  | succ f ih =>
    intro c hcn hc
    rcases adr_there h.inv hc with ⟨h0, _, _⟩ | ⟨hneg, hm⟩
    · rw [tN_data rd h0]; exact List.Pairwise.nil
    · have hcm := h.inv.metas hm
      rw [tN_meta rd hneg (h.rd c hm), h.words c, List.nodup_cons]
      refine ⟨fun hy => ?_, rowT_nodup h hq _ (.inr ⟨hcm, rfl, rfl⟩) (fun s hs => ptrsN_getD hs) ih⟩
      unfold rowT at hy
      obtain ⟨s, hs, hy⟩ := List.mem_flatMap.1 hy
      have hs := List.mem_range.1 hs
      unfold tS at hy
      rw [ptrsN_getD hs] at hy
      cases hc' : childN c s with
      | none => rw [hc'] at hy; simp at hy
      | some c' =>
        rw [hc'] at hy
        by_cases h0 : adr d m c' = 0
        · rw [if_pos h0] at hy; cases hy
        · rw [if_neg h0] at hy
          obtain ⟨k1, _, _, k4⟩ := kid_at h.inv (.inr ⟨hcm, rfl, rfl⟩) hs hc'
          obtain ⟨k, h1, h2, h3⟩ := tN_mem h f c' k1 h0 _ hy
          have : k = c := hq k c (h.nz k h1) h2
          subst this
          rcases h3.lvl with e | e
          · subst e; omega
          · omega
theorem applyE_same : ∀ {E : List (Int × Int)} {b a : Int → Int}, (∀ e ∈ E, e.2 = a e.1) → ∀ x, applyE b E x = if x ∈ E.map (·.1) then a x else b x
  | [], b, a, _, x => by rw [if_neg (by simp)]; rfl
  | e :: E, b, a, h, x => by
    show applyE (setD b e.1 e.2) E x = _
    rw [applyE_same (fun e' he => h e' (List.mem_cons_of_mem _ he)) x]
    by_cases hx : x ∈ E.map (·.1)
    · rw [if_pos hx, if_pos (by rw [List.map_cons]; exact List.mem_cons_of_mem _ hx)]
    · rw [if_neg hx]
      by_cases hxe : x = e.1
      · rw [hxe, setD_self, if_pos (by rw [List.map_cons]; exact List.mem_cons_self), h e List.mem_cons_self]
      · rw [setD_other hxe, if_neg (by rw [List.map_cons, List.mem_cons, not_or]; exact ⟨hxe, hx⟩)]
/-- The inode's pointers. -/
def rootL (d : Int → Int) (m : MM) : List Int := rootsN.map (adr d m)
theorem rootL_at {s : Nat} (hs : s < 9) : (rootL d m).getD s 0 = match childN 600 s with | some c => adr d m c | none => 0 := by
  have h1 : childN 600 s = some (rootsN.getD s 0) := by
    unfold childN
    rw [if_pos rfl, List.getD_eq_getElem?_getD]
    rfl
  rw [h1]
  unfold rootL
  rw [List.getD_eq_getElem?_getD, List.getElem?_map, List.getD_eq_getElem?_getD]
  have : s < rootsN.length := hs
  rw [List.getElem?_eq_getElem this]
  rfl
/-- It is all right; what is set is the map; what is read is each block of pointers, once. -/
theorem load_same (h : Tells1 d m rd) (hq : UniqA (adr d m)) : rowOk rd 4 600 (rootL d m) 9 = true ∧ applyE (fun _ => 0) (rowE rd 4 600 (rootL d m) 9) = adr d m ∧ (rowT rd 4 600 (rootL d m) 9).Nodup ∧ ∀ y, y ∈ rowT rd 4 600 (rootL d m) 9 ↔ ∃ k, (m k).isSome = true ∧ adr d m k = y := by
  have hn : (600 : Int) = 600 ∧ 9 = 9 ∧ 4 = 4 ∨ (600 : Int) ∈ metasN ∧ 9 = 16 ∧ 4 = lvlN 600 := .inl ⟨rfl, rfl, rfl⟩
  have hE : ∀ e ∈ rowE rd 4 600 (rootL d m) 9, e.2 = adr d m e.1 := fun e he => by
    unfold rowE at he
    obtain ⟨s, hs, he⟩ := List.mem_flatMap.1 he
    unfold eS at he
    rw [rootL_at (List.mem_range.1 hs)] at he
    cases hc' : childN 600 s with
    | none => rw [hc'] at he; simp at he
    | some c' =>
      rw [hc'] at he
      by_cases h0 : adr d m c' = 0
      · rw [if_pos h0] at he; cases he
      · rw [if_neg h0] at he; exact eN_mem h 4 c' h0 e he
  have hroot : ∀ x, adr d m x ≠ 0 → ∃ c s, s < 9 ∧ childN 600 s = some c ∧ c ∈ nodesN ∧ Und c x ∧ lvlN c < 4 ∧ adr d m c ≠ 0 := fun x hx => by
    obtain ⟨c, h1, h2, h3⟩ := und_root 4 x (adr_hasB h.inv hx).2 (by omega)
    obtain ⟨s, hs, hch, _⟩ := up_child h1
    rw [h2, if_pos rfl] at hs
    rw [h2] at hch
    exact ⟨c, s, hs, hch, h1, h3, (kid_at h.inv hn hs hch).2.2.2, und_adr h h3 hx⟩
  refine ⟨?_, ?_, rowT_nodup h hq _ hn (fun s hs => rootL_at hs) (tN_nodup h hq 4), fun y => ?_⟩
  · unfold rowOk
    refine List.all_eq_true.2 fun s hs => ?_
    have hs := List.mem_range.1 hs
    unfold okS
    rw [rootL_at hs]
    cases hc' : childN 600 s with
    | none => simp
    | some c' =>
      by_cases h0 : adr d m c' = 0
      · simp [h0]
      · have := gN_tells h 4 c' (kid_at h.inv hn hs hc').2.2.2 h0
        simp [this]
  · funext x
    rw [applyE_same hE]
    by_cases hx : adr d m x = 0
    · rw [hx]; split <;> rfl
    · obtain ⟨c, s, hs, hch, hcn, hu, hlv, hc⟩ := hroot x hx
      rw [if_pos]
      refine List.mem_map.2 ⟨(x, adr d m x), mem_rowE hs (by rw [rootL_at hs, hch]; exact hc) hch ?_, rfl⟩
      rw [rootL_at hs, hch]
      exact eN_cover h 4 c x hcn hlv hu hx
  · constructor
    · intro hy
      unfold rowT at hy
      obtain ⟨s, hs, hy⟩ := List.mem_flatMap.1 hy
      have hs := List.mem_range.1 hs
      unfold tS at hy
      rw [rootL_at hs] at hy
      cases hc' : childN 600 s with
      | none => rw [hc'] at hy; simp at hy
      | some c' =>
        rw [hc'] at hy
        by_cases h0 : adr d m c' = 0
        · rw [if_pos h0] at hy; cases hy
        · rw [if_neg h0] at hy
          obtain ⟨k, h1, h2, _⟩ := tN_mem h 4 c' (kid_at h.inv hn hs hc').1 h0 y hy
          exact ⟨k, h1, h2⟩
    · rintro ⟨k, hk, rfl⟩
      obtain ⟨c, s, hs, hch, hcn, hu, hlv, hc⟩ := hroot k (h.nz k hk)
      unfold rowT
      refine List.mem_flatMap.2 ⟨s, List.mem_range.2 hs, ?_⟩
      unfold tS
      rw [rootL_at hs, hch, if_neg hc]
      exact tN_cover h 4 c k hcn hlv hu hk
end
end Go.Proofs.YtklamgijikcnaaaDoor
