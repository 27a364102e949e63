/- Walk of Walk's closure. -/
import Derived.Test.YtoofcnehoffllaaGreatT24
import Derived.Test.YtoofcnehoffllaaGreatGRows
namespace Go.Proofs.YtoofcnehoffllaaGreat
open Go.RowKit

theorem mkS_append (a b : List UInt8) : mkS a ++ mkS b = mkS (a ++ b) := by
  unfold mkS
  apply ByteArray.ext
  simp
theorem path_add (lp : List ByteArray) (s : ByteArray) : pathS lp true ++ s = pathS (lp ++ [s]) false := by
  rw [← mkS_data s]
  unfold pathS
  rw [mkS_append, slashed_append, slashed_one, mkS_data]
  simp
theorem path_dir (lp : List ByteArray) : pathS lp false ++ ⟨#[47]⟩ = pathS lp true := by
  unfold pathS
  rw [show (⟨#[47]⟩ : ByteArray) = mkS [47] from rfl, mkS_append]
  simp
theorem path_root : (⟨#[47]⟩ : ByteArray) = pathS [] true := rfl
/-- The texts told, in memory. -/
structure VSt (w0 : World) (Z ob vb : Nat) (M : TM) (w : World) (v : Value) (LO : List (List ByteArray)) : Prop where
  bel : Below Z w0 w
  out : w.heap[ob]? = some (.cells #[v] 54 (0, 0))
  vis : w.heap[vb]? = some (.cells #[.func (.func 48) #[] #[.pointer (some ⟨ob, 0, none⟩), .pointer (some ⟨vb, 0, none⟩)]] 108 (0, 0))
  own : w.ownsRow Z 9 1 v LO.length ((LO.map (pathAt M)).map Value.string)
  nod : LO.Nodup
  ok : ∀ l ∈ LO, l ≠ [] ∧ (goE (entN M) 2 l).isSome = true
/-- All paths below some names of a node, each once. -/
def PartIs (M : TM) (i : Nat) (ds : List ByteArray) (LL : List (List ByteArray)) : Prop := LL.Nodup ∧ ∀ l, l ∈ LL ↔ ∃ s l', l = s :: l' ∧ s ∈ ds ∧ (goE (entN M) i l).isSome = true
section
variable {M : TM}
theorem PartIs.nil {i : Nat} : PartIs M i [] [] := ⟨List.nodup_nil, fun l => ⟨fun h => (by cases h), fun ⟨_, _, _, h, _⟩ => (by cases h)⟩⟩
theorem PartIs.done {i : Nat} {ds : List ByteArray} {LL : List (List ByteArray)} (h : PartIs M i ds LL) (hall : ∀ s, (entN M i s).isSome = true → s ∈ ds) : BelowIs M i LL := by
  refine ⟨h.1, fun l => (h.2 l).trans ⟨fun ⟨s, l', e, _, hg⟩ => ⟨by rw [e]; simp, hg⟩, fun ⟨hl, hg⟩ => ?_⟩⟩
  cases l with
  | nil => exact absurd rfl hl
  | cons s l' =>
    refine ⟨s, l', rfl, hall s ?_, hg⟩
    rw [goE_cons] at hg
    cases he : entN M i s with
    | none => rw [he] at hg; cases hg
    | some k => rfl
theorem PartIs.file {i j : Nat} {s : ByteArray} {ds : List ByteArray} {LL : List (List ByteArray)} (h : PartIs M i ds LL) (hs : s ∉ ds) (he : entN M i s = some j) (hd : isDir M j = false) : PartIs M i (ds ++ [s]) (LL ++ [[s]]) := by
  have hj : ∀ l', (goE (entN M) i (s :: l')).isSome = true → l' = [] := fun l' hg => by
    cases l' with
    | nil => rfl
    | cons t l' =>
      rw [goE_cons, he] at hg
      have hg : ((entN M j t).bind fun k => goE (entN M) k l').isSome = true := hg
      cases ht : entN M j t with
      | none => rw [ht] at hg; cases hg
      | some k => rw [ent_dir ht] at hd; cases hd
  refine ⟨?_, fun l => ?_⟩
  · rw [List.nodup_append]
    refine ⟨h.1, by simp, fun a ha b hb e => ?_⟩
    rw [List.mem_singleton] at hb
    subst e hb
    obtain ⟨s', l', e, hs', _⟩ := (h.2 _).1 ha
    injection e with e1 _
    exact hs (by rw [e1]; exact hs')
  · rw [List.mem_append, h.2, List.mem_singleton]
    constructor
    · rintro (⟨s', l', e, hs', hg⟩ | rfl)
      · exact ⟨s', l', e, List.mem_append_left _ hs', hg⟩
      · exact ⟨s, [], rfl, by simp, by rw [goE_cons, he]; rfl⟩
    · rintro ⟨s', l', e, hs', hg⟩
      rcases List.mem_append.1 hs' with hs' | hs'
      · exact .inl ⟨s', l', e, hs', hg⟩
      · rw [List.mem_singleton] at hs'
        subst hs'
        right
        rw [e] at hg
        rw [e, hj l' hg]
theorem PartIs.dir {i j : Nat} {s : ByteArray} {ds : List ByteArray} {LL LJ : List (List ByteArray)} (h : PartIs M i ds LL) (hs : s ∉ ds) (he : entN M i s = some j) (hJ : BelowIs M j LJ) : PartIs M i (ds ++ [s]) ((LL ++ [[s]]) ++ LJ.map (s :: ·)) := by
  refine ⟨?_, fun l => ?_⟩
  · rw [List.nodup_append]
    refine ⟨?_, nodup_on hJ.1 fun a _ b _ e => by injection e, fun a ha b hb e => ?_⟩
    · rw [List.nodup_append]
      refine ⟨h.1, by simp, fun a ha b hb e => ?_⟩
      rw [List.mem_singleton] at hb
      subst e hb
      obtain ⟨s', l', e, hs', _⟩ := (h.2 _).1 ha
      injection e with e1 _
      exact hs (by rw [e1]; exact hs')
    · subst e
      obtain ⟨l', hl', rfl⟩ := List.mem_map.1 hb
      rcases List.mem_append.1 ha with ha | ha
      · obtain ⟨s', l'', e, hs', _⟩ := (h.2 _).1 ha
        injection e with e1 _
        exact hs (by rw [e1]; exact hs')
      · rw [List.mem_singleton] at ha
        injection ha with _ ha
        exact ((hJ.2 _).1 hl').1 ha
  · rw [List.mem_append, List.mem_append, h.2, List.mem_singleton, List.mem_map]
    constructor
    · rintro ((⟨s', l', e, hs', hg⟩ | rfl) | ⟨l', hl', rfl⟩)
      · exact ⟨s', l', e, List.mem_append_left _ hs', hg⟩
      · exact ⟨s, [], rfl, by simp, by rw [goE_cons, he]; rfl⟩
      · exact ⟨s, l', rfl, by simp, by rw [goE_cons, he]; exact ((hJ.2 _).1 hl').2⟩
    · rintro ⟨s', l', e, hs', hg⟩
      rcases List.mem_append.1 hs' with hs' | hs'
      · exact .inl (.inl ⟨s', l', e, hs', hg⟩)
      · rw [List.mem_singleton] at hs'
        subst hs'
        rw [e] at hg
        rw [goE_cons, he] at hg
        by_cases hn : l' = []
        · subst hn; exact .inl (.inr e)
        · exact .inr ⟨l', (hJ.2 _).2 ⟨hn, hg⟩, e.symm⟩
theorem nod_ext {lp : List ByteArray} {LO LL : List (List ByteArray)} (h1 : LO.Nodup) (h2 : LL.Nodup) (h3 : ∀ t ∈ LL, t ≠ []) (h : ∀ l ∈ LO, ∀ t, t ≠ [] → l ≠ lp ++ t) : (LO ++ LL.map (lp ++ ·)).Nodup := by
  rw [List.nodup_append]
  refine ⟨h1, nodup_on h2 fun a _ b _ e => List.append_cancel_left e, fun a ha b hb e => ?_⟩
  obtain ⟨t, ht, rfl⟩ := List.mem_map.1 hb
  exact h a ha t (h3 t ht) e
end
end Go.Proofs.YtoofcnehoffllaaGreat
