/- What an argument of the types [8]entry.MapEntry, [4]entry.DirEntry and entry.MapEntry is: the cells of a list of entries. -/
import Derived.Test.YtggfdhjckohmjaaDoorE8
namespace Go.Proofs.YtggfdhjckohmjaaDoor
open Go.RowKit

theorem okWide_cells {P : Program} {w : World} {r : Reach} {base : Nat} {t : TypeId} {v : Value} {d : TypeDesc} (ts : List TypeId) (ht : P.underlying t = some d) (hd : (match d with | .array _ _ => true | .struct _ => true | _ => false) = true)
    (hts : P.cellTypes P.depth t = some ts) (hsz : P.cellsOf t = ts.length) (h : Value.okWide P w r base t v) :
    ∃ l : List Value, v = .agg l.toArray ∧ l.length = ts.length ∧ ∀ (i : Nat) (u : TypeId) (x : Value), ts[i]? = some u → l[i]? = some x → Cell.okWide P w r base u x := by
  have h' : ∃ cs, v = .agg cs ∧ cs.size = P.cellsOf t ∧ Row.okWide P w r base t cs := by
    cases d <;> first | (simp only [Value.okWide, ht] at h; exact h) | cases hd
  obtain ⟨cs, rfl, hc, ts', hts', _, hr⟩ := h'
  obtain rfl : ts' = ts := Option.some.inj (hts'.symm.trans hts)
  refine ⟨cs.toList, by simp, by simp [hc, hsz], fun i u x hu hx => ?_⟩
  obtain ⟨u', hu', ho⟩ := hr i x (by simpa using hx)
  have hi : i < ts'.length := (List.getElem?_eq_some_iff.1 hu).1
  rw [Nat.mod_eq_of_lt hi, hu] at hu'
  exact Option.some.inj hu' ▸ ho
theorem cell_int {P : Program} {w : World} {r : Reach} {base : Nat} {t : TypeId} {v : Value} {k : IntKind} (ht : P.underlying t = some (.int k)) (h : Cell.okWide P w r base t v) : ∃ n, v = .int k n := by
  simp only [Cell.okWide, ht] at h
  cases v <;> simp_all [Cell.ok]
theorem cell_string {P : Program} {w : World} {r : Reach} {base : Nat} {t : TypeId} {v : Value} (ht : P.underlying t = some .string) (h : Cell.okWide P w r base t v) : ∃ s, v = .string s := by
  simp only [Cell.okWide, ht] at h
  cases v <;> simp_all [Cell.ok]
theorem pairsM : ∀ (m : Nat) (l : List Value), l.length = 2 * m → (∀ (i : Nat) (x : Value), l[i]? = some x → ∃ n, x = Value.int .i64 n) → ∃ L, L.length = m ∧ l = flatM L
  | 0, [], _, _ => ⟨[], rfl, rfl⟩
  | m + 1, [], h, _ => by simp at h
  | m + 1, [_], h, _ => by simp at h; omega
  | 0, _ :: _, h, _ => by simp at h
  | m + 1, a :: b :: l, h, hc => by
    obtain ⟨L, hL, rfl⟩ := pairsM m l (by simp only [List.length_cons] at h; omega) (fun i x hx => hc (i + 2) x (by simpa using hx))
    obtain ⟨p, rfl⟩ := hc 0 a rfl
    obtain ⟨q, rfl⟩ := hc 1 b rfl
    exact ⟨(p, q) :: L, by simp [hL], by simp [flatM]⟩
theorem pairsD : ∀ (m : Nat) (l : List Value), l.length = 2 * m → (∀ (i : Nat) (x : Value), l[i]? = some x → (i % 2 = 0 → ∃ n, x = Value.int .i64 n) ∧ (i % 2 = 1 → ∃ s, x = Value.string s)) → ∃ L, L.length = m ∧ l = flatD L
  | 0, [], _, _ => ⟨[], rfl, rfl⟩
  | m + 1, [], h, _ => by simp at h
  | m + 1, [_], h, _ => by simp at h; omega
  | 0, _ :: _, h, _ => by simp at h
  | m + 1, a :: b :: l, h, hc => by
    obtain ⟨L, hL, rfl⟩ := pairsD m l (by simp only [List.length_cons] at h; omega) (fun i x hx => by
      have := hc (i + 2) x (by simpa using hx)
      simpa [Nat.add_mod_right] using this)
    obtain ⟨p, rfl⟩ := (hc 0 a rfl).1 rfl
    obtain ⟨q, rfl⟩ := (hc 1 b rfl).2 rfl
    exact ⟨(p, q) :: L, by simp [hL], by simp [flatD]⟩

/-- An argument [8]entry.MapEntry. -/
theorem arg_maps {w : World} {r : Reach} {base : Nat} {v : Value} (h : Value.okWide Tryd.prog w r base 24 v) : ∃ L, L.length = 8 ∧ v = .agg (flatM L).toArray := by
  obtain ⟨l, rfl, hl, hc⟩ := okWide_cells (List.replicate 16 3) Tryd.underlying24 rfl (by kernel_rfl) (by kernel_rfl) h
  obtain ⟨L, hL, rfl⟩ := pairsM 8 l (by simpa using hl) (fun i x hx => cell_int Tryd.underlying3 (hc i 3 x (by
    have : i < l.length := (List.getElem?_eq_some_iff.1 hx).1
    rw [hl] at this
    rw [List.getElem?_replicate, if_pos (by simpa using this)]) hx))
  exact ⟨L, hL, rfl⟩
theorem arg_dirs {w : World} {r : Reach} {base : Nat} {v : Value} (h : Value.okWide Tryd.prog w r base 40 v) : ∃ L, L.length = 4 ∧ v = .agg (flatD L).toArray := by
  obtain ⟨l, rfl, hl, hc⟩ := okWide_cells [3, 9, 3, 9, 3, 9, 3, 9] Tryd.underlying40 rfl (by kernel_rfl) (by kernel_rfl) h
  obtain ⟨L, hL, rfl⟩ := pairsD 4 l (by simpa using hl) (fun i x hx => by
    have hi : i < l.length := (List.getElem?_eq_some_iff.1 hx).1
    rw [hl] at hi
    have h8 : i < 8 := by simpa using hi
    have hx' := fun u hu => hc i u x hu hx
    clear hc hx hl h hi
    obtain rfl | rfl | rfl | rfl | rfl | rfl | rfl | rfl : i = 0 ∨ i = 1 ∨ i = 2 ∨ i = 3 ∨ i = 4 ∨ i = 5 ∨ i = 6 ∨ i = 7 := by omega
    all_goals first
      | exact ⟨fun _ => cell_int Tryd.underlying3 (hx' _ rfl), fun h => by simp at h⟩
      | exact ⟨fun h => by simp at h, fun _ => cell_string Tryd.underlying9 (hx' _ rfl)⟩)
  exact ⟨L, hL, rfl⟩
theorem arg_map {w : World} {r : Reach} {base : Nat} {v : Value} (h : Value.okWide Tryd.prog w r base 23 v) : ∃ p q, v = .agg #[.int .i64 p, .int .i64 q] := by
  obtain ⟨l, rfl, hl, hc⟩ := okWide_cells [3, 3] Tryd.underlying23 rfl (by kernel_rfl) (by kernel_rfl) h
  match l, hl, hc with
  | [a, b], _, hc =>
    obtain ⟨p, rfl⟩ := cell_int Tryd.underlying3 (hc 0 _ a rfl rfl)
    obtain ⟨q, rfl⟩ := cell_int Tryd.underlying3 (hc 1 _ b rfl rfl)
    exact ⟨p, q, rfl⟩
end Go.Proofs.YtggfdhjckohmjaaDoor
