/- Set in one; Set of a block of pointers; what is a map's block by its kind; what Cut makes of a map, plainly. -/
import Derived.Test.YtklamgijikcnaaaDoorF15
namespace Go.Proofs.YtklamgijikcnaaaDoor
open Go.RowKit

def metaGone (b a : Int) : List Int := if b = a then [] else toldL b
section
variable {w w' : World} {fb : Nat} {d : Int → Int} {m : MM} {F : Nat → Prop}
theorem set_data {n a : Int} (hF : FAt w fb d m F) (hI : Inv d m) (hn : 0 ≤ n ∧ n < 600) (ha : 0 ≤ a ∧ a < 4096) :
    Calls Tryd.prog 11 #[.pointer (some ⟨fb, 0, none⟩), .int .i64 n, .int .i64 a] w (SetRes w fb F (setS d m n a).1 (setS d m n a).2.1 (setS d m n a).2.2) := by
  unfold setS
  by_cases h1 : d n = a
  · rw [if_pos h1]; exact set_same hF hn ha h1
  rw [if_neg h1]
  by_cases h2 : a = 0
  · rw [if_pos h2]
    subst h2
    exact set_zero hF hI hn h1
  rw [if_neg h2]
  by_cases h3 : d n = 0
  · rw [if_pos h3]; exact set_new hF hI hn ⟨by omega, ha.2⟩ h3
  · rw [if_neg h3]; exact set_over hF hn ⟨by omega, ha.2⟩ h1 h3
set_option maxHeartbeats 2000000 in
set_option maxRecDepth 100000 in
theorem set_meta {n a b u : Int} (hF : FAt w fb d m F) (hI : Inv d m) (hm : m n = some (b, u)) (ha : 0 ≤ a ∧ a < 4096) :
    Calls Tryd.prog 11 #[.pointer (some ⟨fb, 0, none⟩), .int .i64 n, .int .i64 a] w (SetRes w fb F d (updM m n (some (a, u))) (metaGone b a)) := by
  obtain ⟨a0, a1⟩ := ha
  have hnm := hI.j.dom n _ hm
  obtain ⟨l, f, hf, hl⟩ := node_find (mem_nodes.2 (.inr hnm))
  have hl1 := (metas_find n hnm).2.1
  rw [hl] at hl1
  have HL := Lib.hid (level_ok hf hF.span)
  have HF := Lib.hid hF; have HM := Lib.hid hm
  clear hF hm hf hl hI
  go_enter Tryd.func11, Tryd.ntmps11
  go_wp2_with fail
  refine HL.out.mono ?_
  rintro e w1 ⟨rfl, kd, hw1⟩
  have hb1 : Below w.heap.size w w1 := by rw [hw1]; exact below_drewN (Below.refl _ _) _
  have hF1 := HF.out.below hb1
  obtain ⟨db, mb, P, hin, hft⟩ := hF1.ex
  have c1 := cell_blk_some hin.top (i := 1) rfl
  have lkm := hin.lookM n
  obtain ⟨g, hpg, hgg⟩ := hin.at HM.out
  rw [hpg] at lkm
  have d0 := cell_blk_some hgg (i := 0) rfl
  have f0 := free_blk (i := 0) hgg
  have hin2 := hin.setMeta (i := 0) (v := .int .i64 a) (a' := a) (u' := u) HM.out hpg rfl
  have hFg : F g := hft g (.inr (.inr (.inr ⟨n, hpg⟩)))
  have hfr : Fr (fun x => x = g) w1 (w1.setCell ⟨g, 0, none⟩ (.int .i64 a)) := (Fr.refl (fun x => x = g) w1).setCell ⟨g, 0, none⟩ rfl _
  have hF2 : FAt (w1.setCell ⟨g, 0, none⟩ (.int .i64 a)) fb d (updM m n (some (a, u))) F := ⟨⟨db, mb, P, hin2, hft⟩, fun x hx => by rw [size_set]; exact hF1.lt x hx, hF1.off, hF1.span.fr hfr fun e => hF1.off (by rw [e]; exact hFg)⟩
  have hA2 := (Aft.below (F := F) hb1).trans (Aft.same hfr fun x hx => by rw [hx]; exact hFg)
  have HF2 := Lib.hid hF2; have HA2 := Lib.hid hA2; have HB1 := Lib.hid hb1
  clear hw1 hb1 hF1 hin hft hpg hgg hin2 hFg hfr hF2 hA2 HL HF
  by_cases hba : b = a
  · have q : (b == a) = true := beq_iff_eq.2 hba
    have HBA := Lib.hid hba
    clear hba
    go_wp2_with fail
    go_ret2
    exact ⟨_, F, rfl, by unfold metaGone; rw [if_pos HBA.out]; exact IntsAt.nil _ _ _, HF2.out, HA2.out⟩
  · have q : (b == a) = false := beq_eq_false_iff_ne.2 hba
    go_wp2_with fail
    refine (told_any _ _).mono ?_
    rintro e w3 ⟨v, rfl, ho, hb3⟩
    have HO := Lib.hid ho; have HB3 := Lib.hid hb3
    clear ho hb3 c1 lkm d0 f0
    go_wp2_with fail
    go_ret2
    refine ⟨v, F, rfl, ?_, HF2.out.below HB3.out, HA2.out.trans (Aft.below HB3.out)⟩
    unfold metaGone
    rw [if_neg hba]
    refine HO.out.mono ?_
    have := HB1.out.size
    rw [size_set]; exact this
end
/-- Kinds of blocks that a map of blocks is made of. -/
def Tag (w : World) (x : Nat) : Prop := (∃ es c, w.heap[x]? = some (.map es c)) ∨ ∃ cs t z, w.heap[x]? = some (.cells cs t z) ∧ (t = 75 ∨ t = 80)
theorem FAt.tight {w : World} {fb : Nat} {d : Int → Int} {m : MM} {F : Nat → Prop} (h : FAt w fb d m F) : FAt w fb d m fun x => F x ∧ Tag w x := by
  obtain ⟨db, mb, P, hin, hft⟩ := h.ex
  refine ⟨⟨db, mb, P, hin, fun x hx => ⟨hft x hx, ?_⟩⟩, fun x hx => h.lt x hx.1, fun hx => h.off hx.1, h.span⟩
  rcases hx with rfl | rfl | rfl | ⟨k, hk⟩
  · exact .inr ⟨_, _, _, hin.top, .inl rfl⟩
  · obtain ⟨es, c, hm, _⟩ := hin.md
    exact .inl ⟨es, c, hm⟩
  · obtain ⟨es, c, hm, _⟩ := hin.mm
    exact .inl ⟨es, c, hm⟩
  · have hs : (m k).isSome = true := by rw [← hin.dom k, hk]; rfl
    obtain ⟨v, hv⟩ := Option.isSome_iff_exists.1 hs
    exact .inr ⟨_, _, _, hin.blk k x v.1 v.2 hk hv, .inr rfl⟩
theorem OwnI.off_tag {w : World} {B g : Nat} {v : Value} {l : List Int} (h : OwnI w B v l) (ht : Tag w g) : ¬ v.ownBlock = some g := fun e => by
  rcases ht with ⟨es, c, hm⟩ | ⟨cs, t, z, hc, ht⟩
  · exact own_off_map h hm e
  · exact own_off h hc (by rcases ht with rfl | rfl <;> decide) e

/-- Addresses go, none else turns. -/
def Less (a b : Int → Int) : Prop := ∀ c, b c = a c ∨ b c = 0
theorem Less.refl (a : Int → Int) : Less a a := fun _ => .inl rfl
theorem Less.trans {a b c : Int → Int} (h : Less a b) (k : Less b c) : Less a c := fun x => by
  rcases k x with e | e
  · rw [e]; exact h x
  · exact .inr e
theorem goneL_trans {a b c : Int → Int} (h : Less a b) (k : Less b c) : (goneL a b ++ goneL b c).Perm (goneL a c) := by
  have hb : goneL b c = (nodesN.filter fun x => decide (b x ≠ 0) && decide (c x ≠ b x)).map a := by
    unfold goneL
    refine List.map_congr_left fun x hx => ?_
    have := (List.mem_filter.1 hx).2
    simp only [Bool.and_eq_true, decide_eq_true_eq] at this
    exact (h x).resolve_right this.1
  rw [hb]
  unfold goneL
  rw [← List.map_append]
  refine List.Perm.map a ((List.perm_ext_iff_of_nodup (List.nodup_append.2 ⟨nodesN_nodup.sublist List.filter_sublist, nodesN_nodup.sublist List.filter_sublist, fun x hx y hy e => ?_⟩) (nodesN_nodup.sublist List.filter_sublist)).2 fun x => ?_)
  · have h1 := (List.mem_filter.1 hx).2
    have h2 := (List.mem_filter.1 hy).2
    simp only [Bool.and_eq_true, decide_eq_true_eq] at h1 h2
    subst e
    exact h1.2 ((h x).resolve_right h2.1)
  · rw [List.mem_append, List.mem_filter, List.mem_filter, List.mem_filter]
    simp only [Bool.and_eq_true, decide_eq_true_eq]
    constructor
    · rintro (⟨h0, h1, h2⟩ | ⟨h0, h1, h2⟩)
      · refine ⟨h0, h1, fun e => ?_⟩
        have hb0 : b x = 0 := (h x).resolve_left h2
        rcases k x with e2 | e2
        · rw [e2, hb0] at e; exact h1 e.symm
        · rw [e2] at e; exact h1 e.symm
      · have hba : b x = a x := (h x).resolve_right h1
        exact ⟨h0, by rw [← hba]; exact h1, by rw [← hba]; exact h2⟩
    · rintro ⟨h0, h1, h2⟩
      by_cases e : b x = a x
      · exact .inr ⟨h0, by rw [e]; exact h1, by rw [e]; exact h2⟩
      · exact .inl ⟨h0, h1, e⟩
section
variable {d d' : Int → Int} {m m' : MM}
/-- A Set of 0 takes addresses away. -/
theorem setS_less (h : Inv d m) {n : Int} (hn : 0 ≤ n ∧ n < 600) : Less (adr d m) (adr (setS d m n 0).1 (setS d m n 0).2.1) := fun c => by
  obtain ⟨h1, h2, _⟩ := setS_ok h (a := 0) hn
  by_cases hc : 0 ≤ c
  · rw [adr_data hc, adr_data hc, h1]
    by_cases e : c = n
    · rw [e, setD_self]; exact .inr rfl
    · rw [setD_other e]; exact .inl rfl
  · rw [h2.adr (by omega)]
    split
    · exact .inl rfl
    · exact .inr rfl
/-- Data with addresses, rising. -/
def keysD (d : Int → Int) : List Int := ((List.range 600).map fun (i : Nat) => (i : Int)).filter fun n => decide (d n ≠ 0)
theorem keysD_nodup (d : Int → Int) : (keysD d).Nodup := (List.Pairwise.map _ (fun a b hab he => hab (by omega)) List.nodup_range).sublist List.filter_sublist
theorem keysD_sorted (d : Int → Int) : (keysD d).Pairwise (· ≤ ·) := (List.Pairwise.map _ (fun a b hab => by omega) List.pairwise_lt_range).sublist List.filter_sublist
theorem mem_keysD (h : Inv d m) {n : Int} : n ∈ keysD d ↔ d n ≠ 0 := by
  unfold keysD
  rw [List.mem_filter, List.mem_map, decide_eq_true_eq]
  constructor
  · exact fun hx => hx.2
  · intro hx
    obtain ⟨h0, h1⟩ := h.d0 n hx
    exact ⟨⟨n.toNat, List.mem_range.2 (by omega), by omega⟩, hx⟩
theorem keysD_range {n : Int} (h : n ∈ keysD d) : 0 ≤ n ∧ n < 600 := by
  unfold keysD at h
  obtain ⟨i, hi, rfl⟩ := List.mem_map.1 (List.mem_filter.1 h).1
  rw [List.mem_range] at hi
  omega
theorem keysD_length : (keysD d).length ≤ 600 := by
  unfold keysD
  have := List.length_filter_le (fun n => decide (d n ≠ 0)) ((List.range 600).map fun (i : Nat) => (i : Int))
  rw [List.length_map, List.length_range] at this
  exact this
theorem sortI_keysD : sortI (keysD d) = keysD d := sortI_eq (List.Perm.refl _) (keysD_sorted d)
end
end Go.Proofs.YtklamgijikcnaaaDoor
