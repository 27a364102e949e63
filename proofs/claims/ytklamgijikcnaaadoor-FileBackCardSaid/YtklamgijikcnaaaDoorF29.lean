/- The reference's blocks of pointers (marlref04): as rows of structs in memory; plainly. -/
import Derived.Test.YtklamgijikcnaaaDoorF21
import Derived.Test.YtklamgijikcnaaaDoorHold
namespace Go.Proofs.YtklamgijikcnaaaDoor
open Go.RowKit

structure MetaR where
  n : Int
  lvl : Int
  first : Int
  root : Int
  ms : List Int
  ss : List Int

structure MetaV where
  n : Int
  lvl : Int
  first : Int
  root : Int
  mv : Value
  sv : Value
def MetaV.flat (x : MetaV) : List Value := [.int .i64 x.n, .int .i64 x.lvl, .int .i64 x.first, .int .i64 x.root, x.mv, x.sv]
def flat6 (L : List MetaV) : List Value := L.flatMap MetaV.flat
theorem flat6_length (L : List MetaV) : (flat6 L).length = L.length * 6 := by
  induction L with
  | nil => rfl
  | cons x L ih => unfold flat6 at ih ⊢; rw [List.flatMap_cons, List.length_append, ih, List.length_cons]; simp [MetaV.flat]; omega
theorem flat6_append (L M : List MetaV) : flat6 (L ++ M) = flat6 L ++ flat6 M := List.flatMap_append
theorem flat6_at : ∀ {L : List MetaV} {i : Nat} {x : MetaV}, L[i]? = some x → ∀ j, j < 6 → (flat6 L)[i * 6 + j]? = x.flat[j]?
  | [], i, x, h, _, _ => by simp at h
  | y :: L, 0, x, h, j, hj => by
    simp at h
    subst h
    unfold flat6
    rw [List.flatMap_cons, Nat.zero_mul, Nat.zero_add, List.getElem?_append_left (by simp [MetaV.flat]; omega)]
  | y :: L, i + 1, x, h, j, hj => by
    have := flat6_at (L := L) (i := i) (by simpa using h) j hj
    unfold flat6 at this ⊢
    rw [List.flatMap_cons, List.getElem?_append_right (by simp [MetaV.flat]; omega), ← this]
    congr 1
    simp [MetaV.flat]; omega
structure MetaV.is (w : World) (B : Nat) (x : MetaV) (r : MetaR) : Prop where
  n : x.n = r.n
  lvl : x.lvl = r.lvl
  first : x.first = r.first
  root : x.root = r.root
  ms : RowI w B x.mv r.ms
  ss : RowI w B x.sv r.ss
def MsAre (w : World) (B : Nat) (L : List MetaV) (R : List MetaR) : Prop := L.length = R.length ∧ ∀ (i : Nat) x r, L[i]? = some x → R[i]? = some r → x.is w B r
def MetasAt (w : World) (B1 B : Nat) (v : Value) (R : List MetaR) : Prop := ∃ L, w.ownsRow B1 34 6 v L.length (flat6 L) ∧ MsAre w B L R
theorem elMeta : ElT Tryd.prog 84 34 6 80 (.agg #[.int .i64 0, .int .i64 0, .int .i64 0, .int .i64 0, .slice none 0 0, .slice none 0 0]) :=
  ⟨Tryd.underlying84, by kernel_rfl, by kernel_rfl, by decide⟩
section
variable {w w' : World} {B B' B1 B2 : Nat} {v u : Value} {l : List Int} {R R' : List MetaR} {L L' : List MetaV} {x : MetaV} {r : MetaR} {S : Nat → Prop}
theorem RowI.off_own {n : Nat} {xs : List Value} {k : Nat} {E : TypeId} (h : RowI w B u l) (hl : 0 < l.length) (ho : w.ownsRow B1 E k v n xs) (hne : E ≠ 3 := by decide) : ∀ g, u.ownBlock = some g → v.ownBlock ≠ some g := fun g hg he => by
  obtain ⟨a, c, rfl, _, hr⟩ := h
  obtain ⟨g2, cur, rfl, _, hb, _⟩ := hr hl
  injection hg with hg
  subst hg
  exact own_off ho hb (Ne.symm hne) he
theorem RowI.off_blk {b : Nat} {c : Array Value} {t : TypeId} {z : Nat × Nat} (h : RowI w B u l) (hl : 0 < l.length) (hb : w.heap[b]? = some (.cells c t z)) (ht : t ≠ 3 := by decide) : ∀ g, u.ownBlock = some g → ¬ g = b := fun g hg he => by
  obtain ⟨a, c', rfl, _, hr⟩ := h
  obtain ⟨g2, cur, rfl, _, hb2, _⟩ := hr hl
  injection hg with hg
  subst hg
  rw [show g2 = b from he, hb] at hb2
  injection hb2 with hb2
  injection hb2 with _ hb2 _
  exact ht hb2
theorem RowI.slice (h : RowI w B u l) : u.oneCell' = true := by obtain ⟨a, c, rfl, _⟩ := h; rfl
theorem MetaV.is.fr (h : x.is w B r) (hf : Fr S w w') (hs : ∀ (u : Value) l, RowI w B u l → 0 < l.length → ∀ g, u.ownBlock = some g → ¬ S g) : x.is w' B r :=
  ⟨h.n, h.lvl, h.first, h.root, h.ms.fr' hf fun h0 => hs _ _ h.ms h0, h.ss.fr' hf fun h0 => hs _ _ h.ss h0⟩
theorem MsAre.fr (h : MsAre w B L R) (hf : Fr S w w') (hs : ∀ (u : Value) l, RowI w B u l → 0 < l.length → ∀ g, u.ownBlock = some g → ¬ S g) : MsAre w' B L R :=
  ⟨h.1, fun i x r hx hr => (h.2 i x r hx hr).fr hf hs⟩
theorem MsAre.below (h : MsAre w B L R) (hb : Below w.heap.size w w') : MsAre w' B L R := h.fr (S := fun _ => False) (Fr.below hb) fun _ _ _ _ _ _ => id
theorem MsAre.append (h : MsAre w B L R) (h' : MsAre w B L' R') : MsAre w B (L ++ L') (R ++ R') := by
  refine ⟨by rw [List.length_append, List.length_append, h.1, h'.1], fun i x r hx hr => ?_⟩
  by_cases hi : i < L.length
  · rw [List.getElem?_append_left hi] at hx
    rw [List.getElem?_append_left (by rw [← h.1]; exact hi)] at hr
    exact h.2 i x r hx hr
  · rw [List.getElem?_append_right (by omega)] at hx
    rw [List.getElem?_append_right (by rw [← h.1]; omega), ← h.1] at hr
    exact h'.2 _ x r hx hr
theorem MsAre.one (h : MsAre w B L R) : ∀ u ∈ flat6 L, u.oneCell' = true := fun u hu => by
  unfold flat6 at hu
  rw [List.mem_flatMap] at hu
  obtain ⟨x, hx, hu⟩ := hu
  obtain ⟨i, hi⟩ := List.mem_iff_getElem?.1 hx
  have hil := (List.getElem?_eq_some_iff.1 hi).1
  have hi' := h.2 i x _ hi (List.getElem?_eq_getElem (by rw [← h.1]; exact hil))
  simp only [MetaV.flat, List.mem_cons, List.not_mem_nil, or_false] at hu
  rcases hu with rfl | rfl | rfl | rfl | rfl | rfl
  · rfl
  · rfl
  · rfl
  · rfl
  · exact hi'.ms.slice
  · exact hi'.ss.slice
theorem MetasAt.below (h : MetasAt w B1 B v R) (hb : Below w.heap.size w w') : MetasAt w' B1 B v R := by
  obtain ⟨L, h1, h2⟩ := h
  exact ⟨L, own_frame h1 (S := fun _ => False) (Fr.below hb) (fun _ _ => id), h2.below hb⟩
theorem MetasAt.mono (h : MetasAt w B1 B v R) (hb : B2 ≤ B1) : MetasAt w B2 B v R := by
  obtain ⟨L, h1, h2⟩ := h
  exact ⟨L, own_mono h1 hb, h2⟩
theorem MetasAt.nil (w : World) (B1 B : Nat) : MetasAt w B1 B (.slice none 0 0) [] := ⟨[], ⟨rfl, .inl ⟨rfl, rfl⟩⟩, rfl, fun i x r hx _ => by simp at hx⟩
theorem MetasAt.lt (h : MetasAt w B1 B v R) : ∀ k, v.ownBlock = some k → B1 ≤ k ∧ k < w.heap.size := by
  obtain ⟨L, h1, _⟩ := h
  exact fun k hk => h1.lt k hk
theorem MetasAt.shape (h : MetasAt w B1 B v R) : ∃ a c, v = .slice a R.length c := by
  obtain ⟨L, h1, h2, _⟩ := h
  rw [← h2]
  exact own_shape h1
theorem MetasAt.cells (h : MetasAt w B1 B v R) (hl : 0 < R.length) : ∃ g c, v = .slice (some ⟨g, 0, none⟩) R.length c ∧ R.length ≤ c ∧ B1 ≤ g ∧ g < w.heap.size ∧ ∀ (i : Nat) r, R[i]? = some r → ∃ x : MetaV, x.is w B r ∧ ∀ (j : Nat) u, j < 6 → x.flat[j]? = some u → w.cell? ⟨g, i * 6 + j, none⟩ = some u := by
  obtain ⟨L, h1, h2, h3⟩ := h
  rw [← h2] at hl ⊢
  obtain ⟨g, c, rfl, hc, hB, hg, hcell⟩ := own_cells h1 hl
  refine ⟨g, c, rfl, hc, hB, hg, fun i r hr => ?_⟩
  have hil := (List.getElem?_eq_some_iff.1 hr).1
  rw [← h2] at hil
  exact ⟨L[i], h3 i _ r (List.getElem?_eq_getElem hil) hr, fun j u hj hu => hcell _ u (by rw [flat6_at (List.getElem?_eq_getElem hil) j hj]; exact hu)⟩
/-- Behind an append of a row to a row. -/
theorem MetasAt.grow {v3 : Value} {L1 L2 : List MetaV} {w3 : World} (h1 : w.ownsRow B1 34 6 v L1.length (flat6 L1)) (m1 : MsAre w B L1 R) (m2 : MsAre w B L2 R')
    (h3 : w3.ownsRow B1 34 6 v3 (L1.length + L2.length) (flat6 L1 ++ flat6 L2)) (hf : Fr (fun y => v.ownBlock = some y) w w3) : MetasAt w3 B1 B v3 (R ++ R') := by
  refine ⟨L1 ++ L2, by rw [List.length_append, flat6_append]; exact h3, ?_⟩
  have hs : ∀ (u : Value) l, RowI w B u l → 0 < l.length → ∀ g, u.ownBlock = some g → ¬ v.ownBlock = some g := fun u l hu hl g hg => hu.off_own hl h1 (by decide) g hg
  exact (m1.fr hf hs).append (m2.fr hf hs)
end
/-- The blocks at level k from 'first' on, and those beneath it. -/
def belowN : Nat → Int → Int → List Int → List Int → List MetaR
  | 0, _, _, _, _ => []
  | k + 1, f, root, ms, ss => if 600 ≤ f then [] else ⟨-f - k, k + 1, f, root, ms, ss⟩ :: (List.range 16).flatMap fun (i : Nat) => belowN k (f + i * wideN k) root (ms ++ [-f - k]) (ss ++ [(i : Int)])
def kidsB (k : Nat) (f root : Int) (ms ss : List Int) (i : Nat) : List MetaR := (List.range i).flatMap fun (i : Nat) => belowN k (f + i * wideN k) root (ms ++ [-f - k]) (ss ++ [(i : Int)])
theorem kidsB_succ (k : Nat) (f root : Int) (ms ss : List Int) (i : Nat) : kidsB k f root ms ss (i + 1) = kidsB k f root ms ss i ++ belowN k (f + i * wideN k) root (ms ++ [-f - k]) (ss ++ [(i : Int)]) := by
  unfold kidsB
  rw [List.range_succ, List.flatMap_append, List.flatMap_singleton]
theorem flat_le {α : Type} {f : Nat → List α} {c : Nat} (h : ∀ i, (f i).length ≤ c) : ∀ n, ((List.range n).flatMap f).length ≤ n * c
  | 0 => by simp
  | n + 1 => by
    rw [List.range_succ, List.flatMap_append, List.length_append, List.flatMap_singleton]
    have := flat_le h n
    have := h n
    rw [Nat.add_mul]
    omega
def capB : Nat → Nat
  | 0 => 0
  | k + 1 => 1 + 16 * capB k
theorem belowN_le : ∀ (k : Nat) (f root : Int) (ms ss : List Int), (belowN k f root ms ss).length ≤ capB k
  | 0, _, _, _, _ => by unfold belowN capB; simp
  | k + 1, f, root, ms, ss => by
    unfold belowN capB
    split
    · simp
    · rw [List.length_cons]
      have := flat_le (f := fun (i : Nat) => belowN k (f + i * wideN k) root (ms ++ [-f - k]) (ss ++ [(i : Int)])) (fun i => belowN_le k _ _ _ _) 16
      omega
theorem kidsB_le (k : Nat) (f root : Int) (ms ss : List Int) (i : Nat) (h : i ≤ 16) : (kidsB k f root ms ss i).length ≤ 16 * capB k := by
  have := flat_le (f := fun (i : Nat) => belowN k (f + i * wideN k) root (ms ++ [-f - k]) (ss ++ [(i : Int)])) (fun i => belowN_le k _ _ _ _) i
  have : i * capB k ≤ 16 * capB k := Nat.mul_le_mul_right _ h
  unfold kidsB
  omega
theorem capB_le {k : Nat} (h : k ≤ 3) : capB k ≤ 273 := by
  have : k = 0 ∨ k = 1 ∨ k = 2 ∨ k = 3 := by omega
  rcases this with rfl | rfl | rfl | rfl <;> decide
/-- All of them, in order. -/
def allN : List MetaR := belowN 1 6 6 [] [] ++ belowN 2 22 7 [] [] ++ belowN 3 278 8 [] []
theorem allN_metas : allN.map (·.n) = metasN := by decide +kernel
end Go.Proofs.YtklamgijikcnaaaDoor
