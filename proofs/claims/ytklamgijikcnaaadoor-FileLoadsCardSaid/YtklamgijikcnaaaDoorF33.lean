/- The reference's blocks of pointers (marlref04): as rows of structs in memory; plainly. -/
/- Walks of the reference's width, below. -/
/- Walks of the reference's All, Find. -/
/- Walk of the reference's Find. -/
/- Walk of the statement FileNeeds: it returns true. -/
import Derived.Test.YtklamgijikcnaaaDoorF21
import Derived.Test.YtklamgijikcnaaaDoorHold
import Derived.Test.YtklamgijikcnaaaDoorF23
import Derived.Test.YtklamgijikcnaaaDoorF27
namespace Go.Proofs.YtklamgijikcnaaaDoor
open Go.RowKit

structure MetaR where
  n : Int
  lvl : Int
  first : Int
  root : Int
  ms : List Int
  ss : List Int

structure MetaV where
  n : Int
  lvl : Int
  first : Int
  root : Int
  mv : Value
  sv : Value
def MetaV.flat (x : MetaV) : List Value := [.int .i64 x.n, .int .i64 x.lvl, .int .i64 x.first, .int .i64 x.root, x.mv, x.sv]
def flat6 (L : List MetaV) : List Value := L.flatMap MetaV.flat
theorem flat6_length (L : List MetaV) : (flat6 L).length = L.length * 6 := by
  induction L with
  | nil => rfl
  | cons x L ih => unfold flat6 at ih ⊢; rw [List.flatMap_cons, List.length_append, ih, List.length_cons]; simp [MetaV.flat]; omega
theorem flat6_append (L M : List MetaV) : flat6 (L ++ M) = flat6 L ++ flat6 M := List.flatMap_append
theorem flat6_at : ∀ {L : List MetaV} {i : Nat} {x : MetaV}, L[i]? = some x → ∀ j, j < 6 → (flat6 L)[i * 6 + j]? = x.flat[j]?
  | [], i, x, h, _, _ => by simp at h
  | y :: L, 0, x, h, j, hj => by
    simp at h
    subst h
    unfold flat6
    rw [List.flatMap_cons, Nat.zero_mul, Nat.zero_add, List.getElem?_append_left (by simp [MetaV.flat]; omega)]
  | y :: L, i + 1, x, h, j, hj => by
    have := flat6_at (L := L) (i := i) (by simpa using h) j hj
    unfold flat6 at this ⊢
    rw [List.flatMap_cons, List.getElem?_append_right (by simp [MetaV.flat]; omega), ← this]
    congr 1
    simp [MetaV.flat]; omega
structure MetaV.is (w : World) (B : Nat) (x : MetaV) (r : MetaR) : Prop where
  n : x.n = r.n
  lvl : x.lvl = r.lvl
  first : x.first = r.first
  root : x.root = r.root
  ms : RowI w B x.mv r.ms
  ss : RowI w B x.sv r.ss
def MsAre (w : World) (B : Nat) (L : List MetaV) (R : List MetaR) : Prop := L.length = R.length ∧ ∀ (i : Nat) x r, L[i]? = some x → R[i]? = some r → x.is w B r
def MetasAt (w : World) (B1 B : Nat) (v : Value) (R : List MetaR) : Prop := ∃ L, w.ownsRow B1 34 6 v L.length (flat6 L) ∧ MsAre w B L R
theorem elMeta : ElT Tryd.prog 84 34 6 80 (.agg #[.int .i64 0, .int .i64 0, .int .i64 0, .int .i64 0, .slice none 0 0, .slice none 0 0]) :=
  ⟨Tryd.underlying84, by kernel_rfl, by kernel_rfl, by decide⟩
section
variable {w w' : World} {B B' B1 B2 : Nat} {v u : Value} {l : List Int} {R R' : List MetaR} {L L' : List MetaV} {x : MetaV} {r : MetaR} {S : Nat → Prop}
theorem RowI.off_own {n : Nat} {xs : List Value} {k : Nat} {E : TypeId} (h : RowI w B u l) (hl : 0 < l.length) (ho : w.ownsRow B1 E k v n xs) (hne : E ≠ 3 := by decide) : ∀ g, u.ownBlock = some g → v.ownBlock ≠ some g := fun g hg he => by
  obtain ⟨a, c, rfl, _, hr⟩ := h
  obtain ⟨g2, cur, rfl, _, hb, _⟩ := hr hl
  injection hg with hg
  subst hg
  exact own_off ho hb (Ne.symm hne) he
theorem RowI.off_blk {b : Nat} {c : Array Value} {t : TypeId} {z : Nat × Nat} (h : RowI w B u l) (hl : 0 < l.length) (hb : w.heap[b]? = some (.cells c t z)) (ht : t ≠ 3 := by decide) : ∀ g, u.ownBlock = some g → ¬ g = b := fun g hg he => by
  obtain ⟨a, c', rfl, _, hr⟩ := h
  obtain ⟨g2, cur, rfl, _, hb2, _⟩ := hr hl
  injection hg with hg
  subst hg
  rw [show g2 = b from he, hb] at hb2
  injection hb2 with hb2
  injection hb2 with _ hb2 _
  exact ht hb2
theorem RowI.slice (h : RowI w B u l) : u.oneCell' = true := by obtain ⟨a, c, rfl, _⟩ := h; rfl
theorem MetaV.is.fr (h : x.is w B r) (hf : Fr S w w') (hs : ∀ (u : Value) l, RowI w B u l → 0 < l.length → ∀ g, u.ownBlock = some g → ¬ S g) : x.is w' B r :=
  ⟨h.n, h.lvl, h.first, h.root, h.ms.fr' hf fun h0 => hs _ _ h.ms h0, h.ss.fr' hf fun h0 => hs _ _ h.ss h0⟩
theorem MsAre.fr (h : MsAre w B L R) (hf : Fr S w w') (hs : ∀ (u : Value) l, RowI w B u l → 0 < l.length → ∀ g, u.ownBlock = some g → ¬ S g) : MsAre w' B L R :=
  ⟨h.1, fun i x r hx hr => (h.2 i x r hx hr).fr hf hs⟩
theorem MsAre.below (h : MsAre w B L R) (hb : Below w.heap.size w w') : MsAre w' B L R := h.fr (S := fun _ => False) (Fr.below hb) fun _ _ _ _ _ _ => id
theorem MsAre.append (h : MsAre w B L R) (h' : MsAre w B L' R') : MsAre w B (L ++ L') (R ++ R') := by
  refine ⟨by rw [List.length_append, List.length_append, h.1, h'.1], fun i x r hx hr => ?_⟩
  by_cases hi : i < L.length
  · rw [List.getElem?_append_left hi] at hx
    rw [List.getElem?_append_left (by rw [← h.1]; exact hi)] at hr
    exact h.2 i x r hx hr
  · rw [List.getElem?_append_right (by omega)] at hx
    rw [List.getElem?_append_right (by rw [← h.1]; omega), ← h.1] at hr
    exact h'.2 _ x r hx hr
theorem MsAre.one (h : MsAre w B L R) : ∀ u ∈ flat6 L, u.oneCell' = true := fun u hu => by
  unfold flat6 at hu
  rw [List.mem_flatMap] at hu
  obtain ⟨x, hx, hu⟩ := hu
  obtain ⟨i, hi⟩ := List.mem_iff_getElem?.1 hx
  have hil := (List.getElem?_eq_some_iff.1 hi).1
  have hi' := h.2 i x _ hi (List.getElem?_eq_getElem (by rw [← h.1]; exact hil))
  simp only [MetaV.flat, List.mem_cons, List.not_mem_nil, or_false] at hu
  rcases hu with rfl | rfl | rfl | rfl | rfl | rfl
  · rfl
  · rfl
  · rfl
  · rfl
  · exact hi'.ms.slice
  · exact hi'.ss.slice
theorem MetasAt.below (h : MetasAt w B1 B v R) (hb : Below w.heap.size w w') : MetasAt w' B1 B v R := by
  obtain ⟨L, h1, h2⟩ := h
  exact ⟨L, own_frame h1 (S := fun _ => False) (Fr.below hb) (fun _ _ => id), h2.below hb⟩
theorem MetasAt.mono (h : MetasAt w B1 B v R) (hb : B2 ≤ B1) : MetasAt w B2 B v R := by
  obtain ⟨L, h1, h2⟩ := h
  exact ⟨L, own_mono h1 hb, h2⟩
theorem MetasAt.nil (w : World) (B1 B : Nat) : MetasAt w B1 B (.slice none 0 0) [] := ⟨[], ⟨rfl, .inl ⟨rfl, rfl⟩⟩, rfl, fun i x r hx _ => by simp at hx⟩
theorem MetasAt.lt (h : MetasAt w B1 B v R) : ∀ k, v.ownBlock = some k → B1 ≤ k ∧ k < w.heap.size := by
  obtain ⟨L, h1, _⟩ := h
  exact fun k hk => h1.lt k hk
theorem MetasAt.shape (h : MetasAt w B1 B v R) : ∃ a c, v = .slice a R.length c := by
  obtain ⟨L, h1, h2, _⟩ := h
  rw [← h2]
  exact own_shape h1
theorem MetasAt.cells (h : MetasAt w B1 B v R) (hl : 0 < R.length) : ∃ g c, v = .slice (some ⟨g, 0, none⟩) R.length c ∧ R.length ≤ c ∧ B1 ≤ g ∧ g < w.heap.size ∧ ∀ (i : Nat) r, R[i]? = some r → ∃ x : MetaV, x.is w B r ∧ ∀ (j : Nat) u, j < 6 → x.flat[j]? = some u → w.cell? ⟨g, i * 6 + j, none⟩ = some u := by
  obtain ⟨L, h1, h2, h3⟩ := h
  rw [← h2] at hl ⊢
  obtain ⟨g, c, rfl, hc, hB, hg, hcell⟩ := own_cells h1 hl
  refine ⟨g, c, rfl, hc, hB, hg, fun i r hr => ?_⟩
  have hil := (List.getElem?_eq_some_iff.1 hr).1
  rw [← h2] at hil
  exact ⟨L[i], h3 i _ r (List.getElem?_eq_getElem hil) hr, fun j u hj hu => hcell _ u (by rw [flat6_at (List.getElem?_eq_getElem hil) j hj]; exact hu)⟩
/-- Behind an append of a row to a row. -/
theorem MetasAt.grow {v3 : Value} {L1 L2 : List MetaV} {w3 : World} (h1 : w.ownsRow B1 34 6 v L1.length (flat6 L1)) (m1 : MsAre w B L1 R) (m2 : MsAre w B L2 R')
    (h3 : w3.ownsRow B1 34 6 v3 (L1.length + L2.length) (flat6 L1 ++ flat6 L2)) (hf : Fr (fun y => v.ownBlock = some y) w w3) : MetasAt w3 B1 B v3 (R ++ R') := by
  refine ⟨L1 ++ L2, by rw [List.length_append, flat6_append]; exact h3, ?_⟩
  have hs : ∀ (u : Value) l, RowI w B u l → 0 < l.length → ∀ g, u.ownBlock = some g → ¬ v.ownBlock = some g := fun u l hu hl g hg => hu.off_own hl h1 (by decide) g hg
  exact (m1.fr hf hs).append (m2.fr hf hs)
end
/-- The blocks at level k from 'first' on, and those beneath it. -/
def belowN : Nat → Int → Int → List Int → List Int → List MetaR
  | 0, _, _, _, _ => []
  | k + 1, f, root, ms, ss => if 600 ≤ f then [] else ⟨-f - k, k + 1, f, root, ms, ss⟩ :: (List.range 16).flatMap fun (i : Nat) => belowN k (f + i * wideN k) root (ms ++ [-f - k]) (ss ++ [(i : Int)])
def kidsB (k : Nat) (f root : Int) (ms ss : List Int) (i : Nat) : List MetaR := (List.range i).flatMap fun (i : Nat) => belowN k (f + i * wideN k) root (ms ++ [-f - k]) (ss ++ [(i : Int)])
theorem kidsB_succ (k : Nat) (f root : Int) (ms ss : List Int) (i : Nat) : kidsB k f root ms ss (i + 1) = kidsB k f root ms ss i ++ belowN k (f + i * wideN k) root (ms ++ [-f - k]) (ss ++ [(i : Int)]) := by
  unfold kidsB
  rw [List.range_succ, List.flatMap_append, List.flatMap_singleton]
theorem flat_le {α : Type} {f : Nat → List α} {c : Nat} (h : ∀ i, (f i).length ≤ c) : ∀ n, ((List.range n).flatMap f).length ≤ n * c
  | 0 => by simp
  | n + 1 => by
    rw [List.range_succ, List.flatMap_append, List.length_append, List.flatMap_singleton]
    have := flat_le h n
    have := h n
    rw [Nat.add_mul]
    omega
def capB : Nat → Nat
  | 0 => 0
  | k + 1 => 1 + 16 * capB k
theorem belowN_le : ∀ (k : Nat) (f root : Int) (ms ss : List Int), (belowN k f root ms ss).length ≤ capB k
  | 0, _, _, _, _ => by unfold belowN capB; simp
  | k + 1, f, root, ms, ss => by
    unfold belowN capB
    split
    · simp
    · rw [List.length_cons]
      have := flat_le (f := fun (i : Nat) => belowN k (f + i * wideN k) root (ms ++ [-f - k]) (ss ++ [(i : Int)])) (fun i => belowN_le k _ _ _ _) 16
      omega
theorem kidsB_le (k : Nat) (f root : Int) (ms ss : List Int) (i : Nat) (h : i ≤ 16) : (kidsB k f root ms ss i).length ≤ 16 * capB k := by
  have := flat_le (f := fun (i : Nat) => belowN k (f + i * wideN k) root (ms ++ [-f - k]) (ss ++ [(i : Int)])) (fun i => belowN_le k _ _ _ _) i
  have : i * capB k ≤ 16 * capB k := Nat.mul_le_mul_right _ h
  unfold kidsB
  omega
theorem capB_le {k : Nat} (h : k ≤ 3) : capB k ≤ 273 := by
  have : k = 0 ∨ k = 1 ∨ k = 2 ∨ k = 3 := by omega
  rcases this with rfl | rfl | rfl | rfl <;> decide
/-- All of them, in order. -/
def allN : List MetaR := belowN 1 6 6 [] [] ++ belowN 2 22 7 [] [] ++ belowN 3 278 8 [] []
theorem allN_metas : allN.map (·.n) = metasN := by decide +kernel
end Go.Proofs.YtklamgijikcnaaaDoor

namespace Go.Proofs.YtklamgijikcnaaaDoor
open Go.RowKit

set_option maxRecDepth 100000 in
theorem rwidth_any (l : Nat) (hl : l ≤ 3) (w : World) :
    Calls Tryd.prog 80 #[.int .i64 l] w fun e w' => e = .returned (.int .i64 (wideN l)) ∧ w' = w := by
  have hc : l = 0 ∨ l = 1 ∨ l = 2 ∨ l = 3 := by omega
  have i0 : ∀ w, (Instr.index 123 (.agg #[.int .i64 1, .int .i64 16, .int .i64 256, .int .i64 4096]) (.int .i64 l)).run Tryd.prog w = .ok (.int .i64 (wideN l)) w := by
    rcases hc with rfl | rfl | rfl | rfl <;> exact fun _ => by kernel_rfl
  clear hc
  generalize wideN l = r at i0 ⊢
  go_enter Tryd.func80, Tryd.ntmps80
  go_wp2_with fail
  go_ret
  exact ⟨rfl, rfl⟩
def BelRes (w : World) (B : Nat) (R : List MetaR) (e : Ending) (w' : World) : Prop := ∃ v, e = .returned v ∧ MetasAt w' w.heap.size B v R ∧ Below w.heap.size w w'
/-- While its sixteen are laid. -/
structure BelSt (w : World) (B pb qb : Nat) (root n lvl f : Int) (ms ss : List Int) (mv sv out : Value) (R : List MetaR) (wr : World) : Prop where
  box : wr.heap[pb]? = some (.cells #[.int .i64 root, mv, sv] 32 (0, 0))
  mbox : wr.heap[qb]? = some (.cells #[.int .i64 n, .int .i64 lvl, .int .i64 f, .int .i64 root, mv, sv] 34 (0, 0))
  mr : RowI wr B mv ms
  sr : RowI wr B sv ss
  out : MetasAt wr (qb + 1) B out R
  bel : Below w.heap.size w wr
  pq : pb < qb
  lo : w.heap.size ≤ pb
section
variable {w wr w3 : World} {B pb qb : Nat} {root n lvl f : Int} {ms ss : List Int} {mv sv out v3 : Value} {R R2 : List MetaR} {L1 L2 : List MetaV}
theorem BelSt.below (h : BelSt w B pb qb root n lvl f ms ss mv sv out R wr) (hb : Below wr.heap.size wr w3) : BelSt w B pb qb root n lvl f ms ss mv sv out R w3 :=
  ⟨(hb.block _ (blk_lt h.box)).trans h.box, (hb.block _ (blk_lt h.mbox)).trans h.mbox, h.mr.below hb, h.sr.below hb, h.out.below hb, below_call h.bel hb (Nat.le_refl _), h.pq, h.lo⟩
theorem BelSt.push (h : BelSt w B pb qb root n lvl f ms ss mv sv out R wr) (h1 : wr.ownsRow (qb + 1) 34 6 out L1.length (flat6 L1)) (m1 : MsAre wr B L1 R) (m2 : MsAre wr B L2 R2)
    (h3 : w3.ownsRow (qb + 1) 34 6 v3 (L1.length + L2.length) (flat6 L1 ++ flat6 L2)) (hf : Fr (fun y => out.ownBlock = some y) wr w3) : BelSt w B pb qb root n lvl f ms ss mv sv v3 (R ++ R2) w3 := by
  have hp := h.pq
  have hlo := h.lo
  have hs : ∀ (u : Value) l, RowI wr B u l → 0 < l.length → ∀ g, u.ownBlock = some g → ¬ out.ownBlock = some g := fun u l hu hl g hg => hu.off_own hl h1 (by decide) g hg
  refine ⟨(hf.block _ (blk_lt h.box) fun e => ?_).trans h.box, (hf.block _ (blk_lt h.mbox) fun e => ?_).trans h.mbox, h.mr.fr' hf (hs _ _ h.mr), h.sr.fr' hf (hs _ _ h.sr), MetasAt.grow h1 m1 m2 h3 hf, h.bel.trans (hf.toBelow (B := w.heap.size) h.bel.size fun x hx => ?_), hp, hlo⟩
  · have := (h1.lt _ e).1; omega
  · have := (h1.lt _ e).1; omega
  · have := (h1.lt _ hx).1; omega
end
/-- What each operation of the region says that lays the next path. -/
def F8 (Z pb qb : Nat) (root n i : Int) (ms ss : List Int) (mv sv : Value) (k : Nat) (y : Nat → Value) (tag : Nat → Nat) (w : World) : Prop :=
  match k with
  | 0 => y 0 = .pointer (some ⟨pb, 0, none⟩)
  | 1 => y 1 = .int .i64 root
  | 2 => Hold tag 1 w Z (y 2) []
  | 3 => y 3 = .pointer (some ⟨pb, 1, none⟩)
  | 4 => y 4 = mv
  | 5 => Hold tag 1 w Z (y 5) ms
  | 6 => y 6 = .pointer (some ⟨qb, 0, none⟩)
  | 7 => y 7 = .int .i64 n
  | 8 => Hold tag 2 w Z (y 8) [n]
  | 9 => Hold tag 1 w Z (y 9) (ms ++ [n])
  | 10 => Hold tag 3 w Z (y 10) []
  | 11 => y 11 = .pointer (some ⟨pb, 2, none⟩)
  | 12 => y 12 = sv
  | 13 => Hold tag 3 w Z (y 13) ss
  | 14 => y 14 = .int .i64 i
  | 15 => Hold tag 4 w Z (y 15) [i]
  | 16 => Hold tag 3 w Z (y 16) (ss ++ [i])
  | 17 => y 17 = .agg #[.int .i64 root, y 9, y 16]
  | 18 => ∃ nb, y 18 = .pointer (some ⟨nb, 0, none⟩) ∧ Z ≤ nb ∧ Blk tag 5 w nb (.cells #[.int .i64 0, .slice none 0 0, .slice none 0 0] 32 (0, 0))
  | 19 => ∃ nb, y 18 = .pointer (some ⟨nb, 0, none⟩) ∧ Z ≤ nb ∧ Blk tag 5 w nb (.cells #[.int .i64 root, y 9, y 16] 32 (0, 0))
  | _ => True
def C8 : Nat → List Nat
  | 2 => [5] | 5 => [9] | 8 => [9] | 10 => [13] | 13 => [16] | 15 => [16] | 18 => [19] | _ => []
theorem lt20 {k : Nat} (h : k < 20) : k = 0 ∨ k = 1 ∨ k = 2 ∨ k = 3 ∨ k = 4 ∨ k = 5 ∨ k = 6 ∨ k = 7 ∨ k = 8 ∨ k = 9 ∨ k = 10 ∨ k = 11 ∨ k = 12 ∨ k = 13 ∨ k = 14 ∨ k = 15 ∨ k = 16 ∨ k = 17 ∨ k = 18 ∨ k = 19 := by omega
set_option maxHeartbeats 4000000 in
set_option maxRecDepth 100000 in
theorem below_any : ∀ (k : Nat), k ≤ 3 → ∀ (f root : Int) (ms ss : List Int) (mv sv : Value) (w : World) (B : Nat), 0 ≤ f → ms.length + k ≤ 10 → ss.length + k ≤ 10 → RowI w B mv ms → RowI w B sv ss → B ≤ w.heap.size →
    Calls Tryd.prog 54 #[.int .i64 k, .int .i64 f, .agg #[.int .i64 root, mv, sv]] w (BelRes w B (belowN k f root ms ss)) := by
  intro k
  induction k with
  | zero =>
    intro _ f root ms ss mv sv w B _ _ _ _ _ _
    go_enter Tryd.func54, Tryd.ntmps54
    go_wp2_with fail
    go_ret
    exact ⟨_, rfl, MetasAt.nil _ _ _, (Below.refl _ _).alloc (Nat.le_refl _) _⟩
  | succ k ih =>
    have IH := Lib.hid ih
    clear ih
    intro hk f root ms ss mv sv w B h0 hm hs hmr hsr hB
    have hk0 : (((k : Int) + 1) == 0) = false := by rw [beq_eq_false_iff_ne]; omega
    have hk1 : (0 : Int) ≤ (k : Int) := by omega
    have hk2 : (k : Int) ≤ 2 := by omega
    have hz : ((k + 1 : Nat) : Int) = (k : Int) + 1 := by omega
    rw [hz]
    clear hz
    have MR := Lib.hid hmr; have SR := Lib.hid hsr
    obtain ⟨ma, mc, rfl⟩ := hmr.shape
    obtain ⟨sa, sc, rfl⟩ := hsr.shape
    clear hmr hsr
    unfold belowN
    by_cases hf : 600 ≤ f
    · rw [if_pos hf]
      go_enter Tryd.func54, Tryd.ntmps54
      go_wp2_with fail
      go_ret
      exact ⟨_, rfl, MetasAt.nil _ _ _, (Below.refl _ _).alloc (Nat.le_refl _) _⟩
    · rw [if_neg hf]
      have hf2 : decide ((600 : Int) ≤ f) = false := by simpa using hf
      go_enter Tryd.func54, Tryd.ntmps54
      go_wp2_with fail
      obtain ⟨w3, hw3⟩ : ∃ w3, w3 = (((w.alloc (.cells #[.int .i64 root, .slice ma ms.length mc, .slice sa ss.length sc] 32)).alloc (.cells #[.int .i64 (-f - k), .int .i64 (k + 1), .int .i64 f, .int .i64 root, .slice ma ms.length mc, .slice sa ss.length sc] 34)).alloc (.cells #[.int .i64 (-f - k), .int .i64 (k + 1), .int .i64 f, .int .i64 root, .slice ma ms.length mc, .slice sa ss.length sc] 34)) := ⟨_, rfl⟩
      have hb3 : Below w.heap.size w w3 := by rw [hw3]; exact (((Below.refl _ w).alloc (Nat.le_refl _) _).alloc (by simp) _).alloc (by simp; omega) _
      have hst : BelSt w B w.heap.size (w.heap.size + 1) root (-f - k) (k + 1) f ms ss (.slice ma ms.length mc) (.slice sa ss.length sc) (.slice (some ⟨w.heap.size + 1 + 1, 0, none⟩) 1 1) (⟨-f - k, k + 1, f, root, ms, ss⟩ :: kidsB k f root ms ss 0) w3 := by
        refine ⟨?_, ?_, MR.out.below hb3, SR.out.below hb3, ?_, hb3, by omega, Nat.le_refl _⟩
        · rw [hw3]; exact blk_old (blk_old (blk_new rfl))
        · rw [hw3]; exact blk_old (blk_new (by simp))
        · refine ⟨[⟨-f - k, k + 1, f, root, .slice ma ms.length mc, .slice sa ss.length sc⟩], own_block (by rw [hw3]; exact blk_new (by simp)) rfl rfl (by omega) (by decide), rfl, fun i x r hx hr => ?_⟩
          match i, hx, hr with
          | 0, hx, hr =>
            simp at hx hr
            subst hx hr
            exact ⟨rfl, rfl, rfl, rfl, MR.out.below hb3, SR.out.below hb3⟩
          | i + 1, hx, _ => simp at hx
      have K0 := Lib.hid hst
      rw [← hw3]
      clear hst hb3 hw3 MR SR
      generalize w.heap.size + 1 + 1 = ob at K0 ⊢
      obtain ⟨qb, hqb⟩ : ∃ qb, qb = w.heap.size + 1 := ⟨_, rfl⟩
      obtain ⟨pb, hpb⟩ : ∃ pb, pb = w.heap.size := ⟨_, rfl⟩
      rw [← hqb, ← hpb] at K0
      rw [← hqb, ← hpb]
      clear hqb hpb
      go_loopw [8, 9] (fun out idx wr => ∃ i : Nat, i ≤ 16 ∧ idx = .int .i64 i ∧ BelSt w B pb qb root (-f - k) (k + 1) f ms ss (.slice ma ms.length mc) (.slice sa ss.length sc) out (⟨-f - k, k + 1, f, root, ms, ss⟩ :: kidsB k f root ms ss i) wr) (fun _ idx _ => 16 - (RowKit.intOf idx).toNat)
      case atStart => exact ⟨0, by omega, rfl, K0.out⟩
      case round =>
        obtain ⟨i, hi, rfl, hst⟩ := hrel
        clear K0
        have HS := Lib.hid hst
        clear hst
        have IL := Lib.hid hB; have IM := Lib.hid hm; have IS := Lib.hid hs; have I0 := Lib.hid h0; have I2 := Lib.hid hk2; have I3 := Lib.hid hk; have I4 := Lib.hid hf; have I5 := Lib.hid hk1
        clear hk0 hf2 hk hB hm hs h0 hk1 hk2 hf
        by_cases hil : i < 16
        · have i0 : (0 : Int) ≤ (i : Int) := by omega
          go_upto_region 8 with fail
          generalize decide ((i : Int) < 16) = b29
          obtain ⟨w0, hw0⟩ : ∃ w0, w0 = wr.drew := ⟨_, rfl⟩
          have hS := HS.out
          have hz0 : w0.heap.size = wr.heap.size := by rw [hw0]; rfl
          have hb0 : w0.heap[pb]? = some (.cells #[.int .i64 root, .slice ma ms.length mc, .slice sa ss.length sc] 32 (0, 0)) := by rw [hw0]; exact hS.box
          have hq0 : w0.heap[qb]? = some (.cells #[.int .i64 (-f - k), .int .i64 (k + 1), .int .i64 f, .int .i64 root, .slice ma ms.length mc, .slice sa ss.length sc] 34 (0, 0)) := by rw [hw0]; exact hS.mbox
          have HMR := Lib.hid (show RowI w0 B _ _ from by rw [hw0]; exact hS.mr); have HSR := Lib.hid (show RowI w0 B _ _ from by rw [hw0]; exact hS.sr)
          have HB0 := Lib.hid hb0; have HQ0 := Lib.hid hq0; have HZ0 := Lib.hid hz0
          clear hb0 hq0 hz0 hS
          refine wp_region_facts (frame := fun y => ⟨#[.int .i64 (↑k + 1), .int .i64 f, .agg #[.int .i64 root, .slice ma ms.length mc, .slice sa ss.length sc], undef, undef, .pointer (some ⟨pb, 0, none⟩), .slice none 0 0, .pointer (some ⟨qb, 0, none⟩), u8, .int .i64 ↑i, y 18, .int .i64 (↑k + 1), .bool false, .bool false, .int .i64 f, .bool false, .bool false, .int .i64 f, .int .i64 (-f), .int .i64 (↑k + 1), .int .i64 ↑k, .int .i64 (-f - ↑k), .int .i64 (↑k + 1), .int .i64 f, .agg #[.int .i64 root, .slice ma ms.length mc, .slice sa ss.length sc], .agg #[.int .i64 (-f - ↑k), .int .i64 (↑k + 1), .int .i64 f, .int .i64 root, .slice ma ms.length mc, .slice sa ss.length sc], .agg #[.int .i64 (-f - ↑k), .int .i64 (↑k + 1), .int .i64 f, .int .i64 root, .slice ma ms.length mc, .slice sa ss.length sc], .slice (some ⟨ob, 0, none⟩) 1 1, .int .i64 ↑i, .bool b29, u30, u31, y 0, y 1, y 2, y 3, y 4, y 5, y 6, y 7, y 8, y 9, y 10, y 11, y 12, y 13, y 14, y 15, y 16, y 17, u50, u51, u52, u53, u54, u55, u56, u57, u58, u59, u60, u61, u62, undef], []⟩) (I := fun _ _ w2 => Fr (fun _ => False) w0 w2)
            (F := F8 wr.heap.size pb qb root (-f - k) i ms ss (.slice ma ms.length mc) (.slice sa ss.length sc)) (cons := C8) (fun k => [u32, u33, u34, u35, u36, u37, u38, u39, u40, u41, u42, u43, u44, u45, u46, u47, u48, u49, u10].getD k undef) (fun _ => 0) (by kernel_rfl) (by kernel_rfl) rfl (by rw [hw0]; exact Fr.refl _ _) ?_ ?_
          refine ⟨?_, ?_, ?_, ?_, ?_, ?_, ?_, ?_, ?_, ?_, ?_, ?_, ?_, ?_, ?_, ?_, ?_, ?_, ?_, ?_, trivial⟩
          · intro y tag w2 _ _ hI hp K hK
            go_simp
            refine hK (.pointer (some ⟨pb, 0, none⟩)) tag _ w2 rfl hI rfl ?_
            · intro k ok hok hk hp hc hF
              rcases lt20 (Array.getElem?_eq_some_iff.1 hok).1 with rfl | rfl | rfl | rfl | rfl | rfl | rfl | rfl | rfl | rfl | rfl | rfl | rfl | rfl | rfl | rfl | rfl | rfl | rfl | rfl
              all_goals first | exact hF | exact (hk rfl).elim | exact ((hc _ List.mem_cons_self).1 rfl).elim | exact ((hc _ List.mem_cons_self).2 (by obtain rfl := Option.some.inj hok; decide)).elim | exact (hp (by obtain rfl := Option.some.inj hok; decide)).elim
          · intro y tag w2 _ _ hI hp K hK
            have h0 : y 0 = .pointer (some ⟨pb, 0, none⟩) := hp 0 (by decide) (fun c hc => by cases hc)
            have c0 : w2.cell? ⟨pb, 0, none⟩ = some (.int .i64 root) := cell_blk_some ((hI.block pb (blk_lt HB0.out) id).trans HB0.out) rfl
            go_simp
            refine hK (.int .i64 root) tag _ w2 (by simp [updV, h0]) hI rfl ?_
            · intro k ok hok hk hp hc hF
              rcases lt20 (Array.getElem?_eq_some_iff.1 hok).1 with rfl | rfl | rfl | rfl | rfl | rfl | rfl | rfl | rfl | rfl | rfl | rfl | rfl | rfl | rfl | rfl | rfl | rfl | rfl | rfl
              all_goals first | exact hF | exact (hk rfl).elim | exact ((hc _ List.mem_cons_self).1 rfl).elim | exact ((hc _ List.mem_cons_self).2 (by obtain rfl := Option.some.inj hok; decide)).elim | exact (hp (by obtain rfl := Option.some.inj hok; decide)).elim
          · intro y tag w2 _ _ hI hp K hK
            have hz : wr.heap.size ≤ w2.heap.size := by have := hI.size; rw [HZ0.out] at this; exact this
            go_simp
            refine hK (.slice (some ⟨w2.heap.size, 0, none⟩) 0 0) (updT tag w2.heap.size 1) _ (w2.alloc (.cells #[] 3)) rfl (hI.alloc _) (Hold.new tag 1 w2 _ #[] [] rfl hz) ?_
            · intro k ok hok hk hp hc hF
              rcases lt20 (Array.getElem?_eq_some_iff.1 hok).1 with rfl | rfl | rfl | rfl | rfl | rfl | rfl | rfl | rfl | rfl | rfl | rfl | rfl | rfl | rfl | rfl | rfl | rfl | rfl | rfl
              all_goals first | exact Hold.alloc hF _ _ | (obtain ⟨nb, e1, e2, e3⟩ := hF; exact ⟨nb, e1, e2, e3.alloc _ _⟩) | exact hF | exact (hk rfl).elim | exact ((hc _ List.mem_cons_self).1 rfl).elim | exact ((hc _ List.mem_cons_self).2 (by obtain rfl := Option.some.inj hok; decide)).elim | exact (hp (by obtain rfl := Option.some.inj hok; decide)).elim
          · intro y tag w2 _ _ hI hp K hK
            go_simp
            refine hK (.pointer (some ⟨pb, 1, none⟩)) tag _ w2 rfl hI rfl ?_
            · intro k ok hok hk hp hc hF
              rcases lt20 (Array.getElem?_eq_some_iff.1 hok).1 with rfl | rfl | rfl | rfl | rfl | rfl | rfl | rfl | rfl | rfl | rfl | rfl | rfl | rfl | rfl | rfl | rfl | rfl | rfl | rfl
              all_goals first | exact hF | exact (hk rfl).elim | exact ((hc _ List.mem_cons_self).1 rfl).elim | exact ((hc _ List.mem_cons_self).2 (by obtain rfl := Option.some.inj hok; decide)).elim | exact (hp (by obtain rfl := Option.some.inj hok; decide)).elim
          · intro y tag w2 _ _ hI hp K hK
            have h3 : y 3 = .pointer (some ⟨pb, 1, none⟩) := hp 3 (by decide) (fun c hc => by cases hc)
            have c0 : w2.cell? ⟨pb, 1, none⟩ = some (.slice ma ms.length mc) := cell_blk_some ((hI.block pb (blk_lt HB0.out) id).trans HB0.out) rfl
            go_simp
            refine hK (.slice ma ms.length mc) tag _ w2 (by simp [updV, h3]) hI rfl ?_
            · intro k ok hok hk hp hc hF
              rcases lt20 (Array.getElem?_eq_some_iff.1 hok).1 with rfl | rfl | rfl | rfl | rfl | rfl | rfl | rfl | rfl | rfl | rfl | rfl | rfl | rfl | rfl | rfl | rfl | rfl | rfl | rfl
              all_goals first | exact hF | exact (hk rfl).elim | exact ((hc _ List.mem_cons_self).1 rfl).elim | exact ((hc _ List.mem_cons_self).2 (by obtain rfl := Option.some.inj hok; decide)).elim | exact (hp (by obtain rfl := Option.some.inj hok; decide)).elim
          · intro y tag w2 _ _ hI hp K hK
            have h2 : Hold tag 1 w2 wr.heap.size (y 2) [] := hp 2 (by decide) (fun c hc => by simpa [C8] using hc)
            have h4 : y 4 = .slice ma ms.length mc := hp 4 (by decide) (fun c hc => by cases hc)
            have hz : wr.heap.size ≤ w2.heap.size := by have := hI.size; rw [HZ0.out] at this; exact this
            have hm := IM.out; have hs := IS.out
            refine step_append_rows rfl (.tmp 34) (.tmp 36) rfl rfl h2.own h4 (HMR.out.fr hI fun _ _ => id) (by simp; try omega) hz ?_
            intro v w3 ho hf hv
            refine hK v (updT tag w2.heap.size 1) _ w3 rfl (hf.zero (fun g hg => (h2.own.lt g hg).1) hI (by rw [HZ0.out]; exact Nat.le_refl _)) (h2.grow ho hv) ?_
            · intro k ok hok hk hp hc hF
              rcases lt20 (Array.getElem?_eq_some_iff.1 hok).1 with rfl | rfl | rfl | rfl | rfl | rfl | rfl | rfl | rfl | rfl | rfl | rfl | rfl | rfl | rfl | rfl | rfl | rfl | rfl | rfl
              all_goals first | exact Hold.other hF h2 hf (by decide) | (obtain ⟨nb, e1, e2, e3⟩ := hF; exact ⟨nb, e1, e2, e3.other h2 hf (by decide)⟩) | exact hF | exact (hk rfl).elim | exact ((hc _ List.mem_cons_self).1 rfl).elim | exact ((hc _ List.mem_cons_self).2 (by obtain rfl := Option.some.inj hok; decide)).elim | exact (hp (by obtain rfl := Option.some.inj hok; decide)).elim
          · intro y tag w2 _ _ hI hp K hK
            go_simp
            refine hK (.pointer (some ⟨qb, 0, none⟩)) tag _ w2 rfl hI rfl ?_
            · intro k ok hok hk hp hc hF
              rcases lt20 (Array.getElem?_eq_some_iff.1 hok).1 with rfl | rfl | rfl | rfl | rfl | rfl | rfl | rfl | rfl | rfl | rfl | rfl | rfl | rfl | rfl | rfl | rfl | rfl | rfl | rfl
              all_goals first | exact hF | exact (hk rfl).elim | exact ((hc _ List.mem_cons_self).1 rfl).elim | exact ((hc _ List.mem_cons_self).2 (by obtain rfl := Option.some.inj hok; decide)).elim | exact (hp (by obtain rfl := Option.some.inj hok; decide)).elim
          · intro y tag w2 _ _ hI hp K hK
            have h6 : y 6 = .pointer (some ⟨qb, 0, none⟩) := hp 6 (by decide) (fun c hc => by cases hc)
            have c0 : w2.cell? ⟨qb, 0, none⟩ = some (.int .i64 (-f - k)) := cell_blk_some ((hI.block qb (blk_lt HQ0.out) id).trans HQ0.out) rfl
            go_simp
            refine hK (.int .i64 (-f - k)) tag _ w2 (by simp [updV, h6]) hI rfl ?_
            · intro k ok hok hk hp hc hF
              rcases lt20 (Array.getElem?_eq_some_iff.1 hok).1 with rfl | rfl | rfl | rfl | rfl | rfl | rfl | rfl | rfl | rfl | rfl | rfl | rfl | rfl | rfl | rfl | rfl | rfl | rfl | rfl
              all_goals first | exact hF | exact (hk rfl).elim | exact ((hc _ List.mem_cons_self).1 rfl).elim | exact ((hc _ List.mem_cons_self).2 (by obtain rfl := Option.some.inj hok; decide)).elim | exact (hp (by obtain rfl := Option.some.inj hok; decide)).elim
          · intro y tag w2 _ _ hI hp K hK
            have h7 : y 7 = .int .i64 (-f - k) := hp 7 (by decide) (fun c hc => by cases hc)
            have hz : wr.heap.size ≤ w2.heap.size := by have := hI.size; rw [HZ0.out] at this; exact this
            go_simp
            refine hK (.slice (some ⟨w2.heap.size, 0, none⟩) 1 1) (updT tag w2.heap.size 2) _ (w2.alloc (.cells #[.int .i64 (-f - k)] 3)) (by simp [updV, h7]) (hI.alloc _) (Hold.new tag 2 w2 _ #[.int .i64 (-f - k)] [-f - (k : Int)] rfl hz) ?_
            · intro k ok hok hk hp hc hF
              rcases lt20 (Array.getElem?_eq_some_iff.1 hok).1 with rfl | rfl | rfl | rfl | rfl | rfl | rfl | rfl | rfl | rfl | rfl | rfl | rfl | rfl | rfl | rfl | rfl | rfl | rfl | rfl
              all_goals first | exact Hold.alloc hF _ _ | (obtain ⟨nb, e1, e2, e3⟩ := hF; exact ⟨nb, e1, e2, e3.alloc _ _⟩) | exact hF | exact (hk rfl).elim | exact ((hc _ List.mem_cons_self).1 rfl).elim | exact ((hc _ List.mem_cons_self).2 (by obtain rfl := Option.some.inj hok; decide)).elim | exact (hp (by obtain rfl := Option.some.inj hok; decide)).elim
          · intro y tag w2 _ _ hI hp K hK
            have h5 : Hold tag 1 w2 wr.heap.size (y 5) ms := hp 5 (by decide) (fun c hc => by simpa [C8] using hc)
            have h8 : Hold tag 2 w2 wr.heap.size (y 8) [-f - (k : Int)] := hp 8 (by decide) (fun c hc => by simpa [C8] using hc)
            have hz : wr.heap.size ≤ w2.heap.size := by have := hI.size; rw [HZ0.out] at this; exact this
            have hm := IM.out; have hs := IS.out
            refine step_append_rows rfl (.tmp 37) (.tmp 40) rfl rfl h5.own rfl h8.own.row (by simp; try omega) hz ?_
            intro v w3 ho hf hv
            refine hK v (updT tag w2.heap.size 1) _ w3 rfl (hf.zero (fun g hg => (h5.own.lt g hg).1) hI (by rw [HZ0.out]; exact Nat.le_refl _)) (h5.grow ho hv) ?_
            · intro k ok hok hk hp hc hF
              rcases lt20 (Array.getElem?_eq_some_iff.1 hok).1 with rfl | rfl | rfl | rfl | rfl | rfl | rfl | rfl | rfl | rfl | rfl | rfl | rfl | rfl | rfl | rfl | rfl | rfl | rfl | rfl
              all_goals first | exact Hold.other hF h5 hf (by decide) | (obtain ⟨nb, e1, e2, e3⟩ := hF; exact ⟨nb, e1, e2, e3.other h5 hf (by decide)⟩) | exact hF | exact (hk rfl).elim | exact ((hc _ List.mem_cons_self).1 rfl).elim | exact ((hc _ List.mem_cons_self).2 (by obtain rfl := Option.some.inj hok; decide)).elim | exact (hp (by obtain rfl := Option.some.inj hok; decide)).elim
          · intro y tag w2 _ _ hI hp K hK
            have hz : wr.heap.size ≤ w2.heap.size := by have := hI.size; rw [HZ0.out] at this; exact this
            go_simp
            refine hK (.slice (some ⟨w2.heap.size, 0, none⟩) 0 0) (updT tag w2.heap.size 3) _ (w2.alloc (.cells #[] 3)) rfl (hI.alloc _) (Hold.new tag 3 w2 _ #[] [] rfl hz) ?_
            · intro k ok hok hk hp hc hF
              rcases lt20 (Array.getElem?_eq_some_iff.1 hok).1 with rfl | rfl | rfl | rfl | rfl | rfl | rfl | rfl | rfl | rfl | rfl | rfl | rfl | rfl | rfl | rfl | rfl | rfl | rfl | rfl
              all_goals first | exact Hold.alloc hF _ _ | (obtain ⟨nb, e1, e2, e3⟩ := hF; exact ⟨nb, e1, e2, e3.alloc _ _⟩) | exact hF | exact (hk rfl).elim | exact ((hc _ List.mem_cons_self).1 rfl).elim | exact ((hc _ List.mem_cons_self).2 (by obtain rfl := Option.some.inj hok; decide)).elim | exact (hp (by obtain rfl := Option.some.inj hok; decide)).elim
          · intro y tag w2 _ _ hI hp K hK
            go_simp
            refine hK (.pointer (some ⟨pb, 2, none⟩)) tag _ w2 rfl hI rfl ?_
            · intro k ok hok hk hp hc hF
              rcases lt20 (Array.getElem?_eq_some_iff.1 hok).1 with rfl | rfl | rfl | rfl | rfl | rfl | rfl | rfl | rfl | rfl | rfl | rfl | rfl | rfl | rfl | rfl | rfl | rfl | rfl | rfl
              all_goals first | exact hF | exact (hk rfl).elim | exact ((hc _ List.mem_cons_self).1 rfl).elim | exact ((hc _ List.mem_cons_self).2 (by obtain rfl := Option.some.inj hok; decide)).elim | exact (hp (by obtain rfl := Option.some.inj hok; decide)).elim
          · intro y tag w2 _ _ hI hp K hK
            have h11 : y 11 = .pointer (some ⟨pb, 2, none⟩) := hp 11 (by decide) (fun c hc => by cases hc)
            have c0 : w2.cell? ⟨pb, 2, none⟩ = some (.slice sa ss.length sc) := cell_blk_some ((hI.block pb (blk_lt HB0.out) id).trans HB0.out) rfl
            go_simp
            refine hK (.slice sa ss.length sc) tag _ w2 (by simp [updV, h11]) hI rfl ?_
            · intro k ok hok hk hp hc hF
              rcases lt20 (Array.getElem?_eq_some_iff.1 hok).1 with rfl | rfl | rfl | rfl | rfl | rfl | rfl | rfl | rfl | rfl | rfl | rfl | rfl | rfl | rfl | rfl | rfl | rfl | rfl | rfl
              all_goals first | exact hF | exact (hk rfl).elim | exact ((hc _ List.mem_cons_self).1 rfl).elim | exact ((hc _ List.mem_cons_self).2 (by obtain rfl := Option.some.inj hok; decide)).elim | exact (hp (by obtain rfl := Option.some.inj hok; decide)).elim
          · intro y tag w2 _ _ hI hp K hK
            have h10 : Hold tag 3 w2 wr.heap.size (y 10) [] := hp 10 (by decide) (fun c hc => by simpa [C8] using hc)
            have h12 : y 12 = .slice sa ss.length sc := hp 12 (by decide) (fun c hc => by cases hc)
            have hz : wr.heap.size ≤ w2.heap.size := by have := hI.size; rw [HZ0.out] at this; exact this
            have hm := IM.out; have hs := IS.out
            refine step_append_rows rfl (.tmp 42) (.tmp 44) rfl rfl h10.own h12 (HSR.out.fr hI fun _ _ => id) (by simp; try omega) hz ?_
            intro v w3 ho hf hv
            refine hK v (updT tag w2.heap.size 3) _ w3 rfl (hf.zero (fun g hg => (h10.own.lt g hg).1) hI (by rw [HZ0.out]; exact Nat.le_refl _)) (h10.grow ho hv) ?_
            · intro k ok hok hk hp hc hF
              rcases lt20 (Array.getElem?_eq_some_iff.1 hok).1 with rfl | rfl | rfl | rfl | rfl | rfl | rfl | rfl | rfl | rfl | rfl | rfl | rfl | rfl | rfl | rfl | rfl | rfl | rfl | rfl
              all_goals first | exact Hold.other hF h10 hf (by decide) | (obtain ⟨nb, e1, e2, e3⟩ := hF; exact ⟨nb, e1, e2, e3.other h10 hf (by decide)⟩) | exact hF | exact (hk rfl).elim | exact ((hc _ List.mem_cons_self).1 rfl).elim | exact ((hc _ List.mem_cons_self).2 (by obtain rfl := Option.some.inj hok; decide)).elim | exact (hp (by obtain rfl := Option.some.inj hok; decide)).elim
          · intro y tag w2 _ _ hI hp K hK
            go_simp
            refine hK (.int .i64 i) tag _ w2 rfl hI rfl ?_
            · intro k ok hok hk hp hc hF
              rcases lt20 (Array.getElem?_eq_some_iff.1 hok).1 with rfl | rfl | rfl | rfl | rfl | rfl | rfl | rfl | rfl | rfl | rfl | rfl | rfl | rfl | rfl | rfl | rfl | rfl | rfl | rfl
              all_goals first | exact hF | exact (hk rfl).elim | exact ((hc _ List.mem_cons_self).1 rfl).elim | exact ((hc _ List.mem_cons_self).2 (by obtain rfl := Option.some.inj hok; decide)).elim | exact (hp (by obtain rfl := Option.some.inj hok; decide)).elim
          · intro y tag w2 _ _ hI hp K hK
            have h14 : y 14 = .int .i64 i := hp 14 (by decide) (fun c hc => by cases hc)
            have hz : wr.heap.size ≤ w2.heap.size := by have := hI.size; rw [HZ0.out] at this; exact this
            go_simp
            refine hK (.slice (some ⟨w2.heap.size, 0, none⟩) 1 1) (updT tag w2.heap.size 4) _ (w2.alloc (.cells #[.int .i64 i] 3)) (by simp [updV, h14]) (hI.alloc _) (Hold.new tag 4 w2 _ #[.int .i64 i] [(i : Int)] rfl hz) ?_
            · intro k ok hok hk hp hc hF
              rcases lt20 (Array.getElem?_eq_some_iff.1 hok).1 with rfl | rfl | rfl | rfl | rfl | rfl | rfl | rfl | rfl | rfl | rfl | rfl | rfl | rfl | rfl | rfl | rfl | rfl | rfl | rfl
              all_goals first | exact Hold.alloc hF _ _ | (obtain ⟨nb, e1, e2, e3⟩ := hF; exact ⟨nb, e1, e2, e3.alloc _ _⟩) | exact hF | exact (hk rfl).elim | exact ((hc _ List.mem_cons_self).1 rfl).elim | exact ((hc _ List.mem_cons_self).2 (by obtain rfl := Option.some.inj hok; decide)).elim | exact (hp (by obtain rfl := Option.some.inj hok; decide)).elim
          · intro y tag w2 _ _ hI hp K hK
            have h13 : Hold tag 3 w2 wr.heap.size (y 13) ss := hp 13 (by decide) (fun c hc => by simpa [C8] using hc)
            have h15 : Hold tag 4 w2 wr.heap.size (y 15) [(i : Int)] := hp 15 (by decide) (fun c hc => by simpa [C8] using hc)
            have hz : wr.heap.size ≤ w2.heap.size := by have := hI.size; rw [HZ0.out] at this; exact this
            have hm := IM.out; have hs := IS.out
            refine step_append_rows rfl (.tmp 45) (.tmp 47) rfl rfl h13.own rfl h15.own.row (by simp; try omega) hz ?_
            intro v w3 ho hf hv
            refine hK v (updT tag w2.heap.size 3) _ w3 rfl (hf.zero (fun g hg => (h13.own.lt g hg).1) hI (by rw [HZ0.out]; exact Nat.le_refl _)) (h13.grow ho hv) ?_
            · intro k ok hok hk hp hc hF
              rcases lt20 (Array.getElem?_eq_some_iff.1 hok).1 with rfl | rfl | rfl | rfl | rfl | rfl | rfl | rfl | rfl | rfl | rfl | rfl | rfl | rfl | rfl | rfl | rfl | rfl | rfl | rfl
              all_goals first | exact Hold.other hF h13 hf (by decide) | (obtain ⟨nb, e1, e2, e3⟩ := hF; exact ⟨nb, e1, e2, e3.other h13 hf (by decide)⟩) | exact hF | exact (hk rfl).elim | exact ((hc _ List.mem_cons_self).1 rfl).elim | exact ((hc _ List.mem_cons_self).2 (by obtain rfl := Option.some.inj hok; decide)).elim | exact (hp (by obtain rfl := Option.some.inj hok; decide)).elim
          · intro y tag w2 _ _ hI hp K hK
            have h1 : y 1 = .int .i64 root := hp 1 (by decide) (fun c hc => by cases hc)
            have h9 : Hold tag 1 w2 wr.heap.size (y 9) (ms ++ [-f - (k : Int)]) := hp 9 (by decide) (fun c hc => by cases hc)
            have h16 : Hold tag 3 w2 wr.heap.size (y 16) (ss ++ [(i : Int)]) := hp 16 (by decide) (fun c hc => by cases hc)
            obtain ⟨a9, c9, e9⟩ : ∃ a c, y 9 = .slice a (ms ++ [-f - (k : Int)]).length c := h9.own.shape
            obtain ⟨a16, c16, e16⟩ : ∃ a c, y 16 = .slice a (ss ++ [(i : Int)]).length c := h16.own.shape
            rw [List.length_append, List.length_singleton] at e9 e16
            go_simp
            refine hK (.agg #[.int .i64 root, y 9, y 16]) tag _ w2 (by simp [updV, h1, e9, e16]) hI rfl ?_
            · intro k ok hok hk hp hc hF
              rcases lt20 (Array.getElem?_eq_some_iff.1 hok).1 with rfl | rfl | rfl | rfl | rfl | rfl | rfl | rfl | rfl | rfl | rfl | rfl | rfl | rfl | rfl | rfl | rfl | rfl | rfl | rfl
              all_goals first | exact hF | exact (hk rfl).elim | exact ((hc _ List.mem_cons_self).1 rfl).elim | exact ((hc _ List.mem_cons_self).2 (by obtain rfl := Option.some.inj hok; decide)).elim | exact (hp (by obtain rfl := Option.some.inj hok; decide)).elim
          · intro y tag w2 _ _ hI hp K hK
            have hz : wr.heap.size ≤ w2.heap.size := by have := hI.size; rw [HZ0.out] at this; exact this
            go_simp
            refine hK (.pointer (some ⟨w2.heap.size, 0, none⟩)) (updT tag w2.heap.size 5) _ _ rfl (hI.alloc _) ⟨_, rfl, hz, blk_new rfl, updT_self⟩ ?_
            · intro k ok hok hk hp hc hF
              rcases lt20 (Array.getElem?_eq_some_iff.1 hok).1 with rfl | rfl | rfl | rfl | rfl | rfl | rfl | rfl | rfl | rfl | rfl | rfl | rfl | rfl | rfl | rfl | rfl | rfl | rfl | rfl
              all_goals first | exact Hold.alloc hF _ _ | (obtain ⟨nb, e1, e2, e3⟩ := hF; exact ⟨nb, e1, e2, e3.alloc _ _⟩) | exact hF | exact (hk rfl).elim | exact ((hc _ List.mem_cons_self).1 rfl).elim | exact ((hc _ List.mem_cons_self).2 (by obtain rfl := Option.some.inj hok; decide)).elim | exact (hp (by obtain rfl := Option.some.inj hok; decide)).elim
          · intro y tag w2 _ _ hI hp K hK
            obtain ⟨nb, h18, hnz, hnb⟩ : ∃ nb, y 18 = .pointer (some ⟨nb, 0, none⟩) ∧ wr.heap.size ≤ nb ∧ Blk tag 5 w2 nb (.cells #[.int .i64 0, .slice none 0 0, .slice none 0 0] 32 (0, 0)) := hp 18 (by decide) (fun c hc => by simpa [C8] using hc)
            have h17 : y 17 = .agg #[.int .i64 root, y 9, y 16] := hp 17 (by decide) (fun c hc => by cases hc)
            have h9 : Hold tag 1 w2 wr.heap.size (y 9) (ms ++ [-f - (k : Int)]) := hp 9 (by decide) (fun c hc => by cases hc)
            have h16 : Hold tag 3 w2 wr.heap.size (y 16) (ss ++ [(i : Int)]) := hp 16 (by decide) (fun c hc => by cases hc)
            obtain ⟨a9, c9, e9⟩ : ∃ a c, y 9 = .slice a (ms ++ [-f - (k : Int)]).length c := h9.own.shape
            obtain ⟨a16, c16, e16⟩ : ∃ a c, y 16 = .slice a (ss ++ [(i : Int)]).length c := h16.own.shape
            rw [List.length_append, List.length_singleton] at e9 e16
            have c0 : w2.cell? ⟨nb, 0, none⟩ = some (.int .i64 0) := cell_blk_some hnb.blk rfl
            have c1 : w2.cell? ⟨nb, 1, none⟩ = some (.slice none 0 0) := cell_blk_some hnb.blk rfl
            have c2 : w2.cell? ⟨nb, 2, none⟩ = some (.slice none 0 0) := cell_blk_some hnb.blk rfl
            have f0 := free_blk (i := 0) hnb.blk
            have f1 := free_blk (i := 1) hnb.blk
            have f2 := free_blk (i := 2) hnb.blk
            go_simp
            have hE : Ext (fun g => g = nb) tag w2 tag (((w2.setCell ⟨nb, 0, none⟩ (.int .i64 root)).setCell ⟨nb, 1, none⟩ (y 9)).setCell ⟨nb, 2, none⟩ (y 16)) := ⟨(((Fr.refl (fun g => g = nb) w2).setCell ⟨nb, 0, none⟩ rfl _).setCell ⟨nb, 1, none⟩ rfl _).setCell ⟨nb, 2, none⟩ rfl _, fun _ _ => rfl⟩
            have hB := blk_set (i := 2) (blk_set (i := 1) (blk_set (i := 0) hnb.blk (.int .i64 root)) (y 9)) (y 16)
            rw [← e9, ← e16]
            refine hK undef tag _ _ (by simp [updV, h18, h17, e9, e16]) (hE.fr.zero (fun g hg => by rw [show g = nb from hg]; exact hnz) hI (by rw [HZ0.out]; exact Nat.le_refl _)) ⟨nb, h18, hnz, hB, hnb.tg⟩ ?_
            · intro k ok hok hk hp hc hF
              rcases lt20 (Array.getElem?_eq_some_iff.1 hok).1 with rfl | rfl | rfl | rfl | rfl | rfl | rfl | rfl | rfl | rfl | rfl | rfl | rfl | rfl | rfl | rfl | rfl | rfl | rfl | rfl
              all_goals first | exact Hold.ext hF hE (fun g hg => by rw [show g = nb from hg, hnb.tg]; decide) | exact hF | exact (hk rfl).elim | exact ((hc _ List.mem_cons_self).1 rfl).elim | exact ((hc _ List.mem_cons_self).2 (by obtain rfl := Option.some.inj hok; decide)).elim | exact (hp (by obtain rfl := Option.some.inj hok; decide)).elim
          intro y tag w2 _ _ hI hF
          have h9 : Hold tag 1 w2 wr.heap.size (y 9) (ms ++ [-f - (k : Int)]) := hF 9 (by decide) rfl
          have h16 : Hold tag 3 w2 wr.heap.size (y 16) (ss ++ [(i : Int)]) := hF 16 (by decide) rfl
          obtain ⟨nb, h18, hnz, hnb⟩ : ∃ nb, y 18 = .pointer (some ⟨nb, 0, none⟩) ∧ wr.heap.size ≤ nb ∧ Blk tag 5 w2 nb (.cells #[.int .i64 root, y 9, y 16] 32 (0, 0)) := hF 19 (by decide) rfl
          clear hF
          have hwr : Below wr.heap.size wr w2.drew := ((Fr.refl (fun _ => False) wr).drew.trans (by rw [← hw0]; exact hI)).drew.toBelow (Nat.le_refl _) fun _ h => h.elim
          have hnb' := hnb.blk
          have hS2 := HS.out.below hwr
          have r9 := h9.own.row; have r16 := h16.own.row
          obtain ⟨ma9, mc9, e9⟩ := r9.shape
          obtain ⟨sa16, sc16, e16⟩ := r16.shape
          rw [List.length_append, List.length_singleton] at e9 e16
          dsimp only
          rw [h18, e9, e16]
          rw [e9] at hnb' r9
          rw [e16] at hnb' r16
          clear h18 e9 e16 hw0 HB0 HQ0 HZ0 HMR HSR hI
          clear h9 h16 hnb
          have hq := wideN_bd k
          have hq4 : (i : Int) * wideN k ≤ 15 * 4096 := Int.mul_le_mul (by omega) hq.2 (by omega) (by omega)
          have hq0 : 0 ≤ (i : Int) * wideN k := Int.mul_nonneg (by omega) (by omega)
          have hf0 := I0.out; have hf6 := I4.out; have hk3 := I3.out; have hms := IM.out; have hss := IS.out; have hBw := IL.out
          have hsz : w.heap.size ≤ w2.drew.heap.size := hS2.bel.size
          have hBel := IH.out (by omega) (f + i * wideN k) root (ms ++ [-f - (k : Int)]) (ss ++ [(i : Int)]) (.slice ma9 (ms.length + 1) mc9) (.slice sa16 (ss.length + 1) sc16) w2.drew B (by omega) (by rw [List.length_append, List.length_singleton]; omega) (by rw [List.length_append, List.length_singleton]; omega)
            ((r9.mono (Nat.le_trans (Nat.le_trans hBw HS.out.bel.size) (Nat.le_refl _)))) ((r16.mono (Nat.le_trans hBw HS.out.bel.size))) (by omega)
          have hmul : IntKind.i64.wrap ((i : Int) * wideN k) = (i : Int) * wideN k := IntWalk.i64_in _ (by omega)
          have hadd : IntKind.i64.wrap (f + (i : Int) * wideN k) = f + (i : Int) * wideN k := IntWalk.i64_in _ (by omega)
          have hsub : IntKind.i64.wrap (k : Int) = (k : Int) := IntWalk.i64_in _ (by omega)
          have hW := Lib.hid (fun w => rwidth_any k (by omega) w)
          have HBEL := Lib.hid hBel; have HS2 := Lib.hid hS2
          have c0 : w2.cell? ⟨nb, 0, none⟩ = some (.int .i64 root) := cell_blk_some hnb' rfl
          have c1 : w2.cell? ⟨nb, 1, none⟩ = some (.slice ma9 (ms.length + 1) mc9) := cell_blk_some hnb' rfl
          have c2 : w2.cell? ⟨nb, 2, none⟩ = some (.slice sa16 (ss.length + 1) sc16) := cell_blk_some hnb' rfl
          clear hBel hS2 r9 r16 hnb' hwr hq4 hq0 hf0 hf6 hms hss hBw hsz hq hk3
          obtain ⟨L1, hown1, hm1⟩ := HS2.out.out
          have HO1 := Lib.hid hown1; have HM1 := Lib.hid hm1
          have hlen1 : L1.length ≤ 1 + 16 * 273 := by
            have h1 := hm1.1
            have h2 := kidsB_le k f root ms ss i (by omega)
            have h3 := capB_le (k := k) (by have := I3.out; omega)
            rw [List.length_cons] at h1
            have : 16 * capB k ≤ 16 * 273 := Nat.mul_le_mul_left _ h3
            omega
          clear hown1 hm1
          go_wp2_with fail
          go_region_law
            (first
              | (go_simp; go_at_call 80; refine (hW.out _).mono ?_; rintro e w' ⟨rfl, rfl⟩)
              | (go_simp; go_at_call 54; (with_reducible refine HBEL.out.mono ?_)
                 rintro e w5 ⟨v5, rfl, ⟨L5, hown5, hms5⟩, hb5⟩
                 have HO5 := Lib.hid hown5; have HM5 := Lib.hid hms5; have HB5 := Lib.hid hb5
                 have HL5 : Hid (L5.length ≤ 273) := Lib.hid (by
                   have h1 := hms5.1
                   have h2 := belowN_le k (f + i * wideN k) root (ms ++ [-f - (k : Int)]) (ss ++ [(i : Int)])
                   have h3 := capB_le (k := k) (by have := I3.out; omega)
                   omega)
                 clear hown5 hms5 hb5)
              | (refine step_append_g (by rfl) (.tmp 50) (.tmp 61) (by rfl) elMeta (by rfl) (own_frame HO1.out (S := fun _ => False) (Fr.below HB5.out) (fun _ _ => id)) (by rfl) (SrcG.of_own HO5.out HM5.out.one) (by unfold maxLen; have := HL5.out; omega) (by have := HL5.out; omega) (by have := HB5.out.size; have := (HS2.out.below HB5.out).pq; have := blk_lt (HS2.out.below HB5.out).mbox; omega) ?_
                 intro v6 w6 ho6 hf6 _
                 have HS6 := Lib.hid ((HS2.out.below HB5.out).push (own_frame HO1.out (S := fun _ => False) (Fr.below HB5.out) (fun _ _ => id)) (HM1.out.below HB5.out) HM5.out ho6 hf6)
                 clear ho6 hf6
                 dsimp only))
          all_goals
            clear c0 c1 c2 hW HBEL hmul hadd hsub HS2 HO1 HM1 HO5 HM5 HB5 HL5 hlen1
            go_wp2_with fail
            go_roundw
            case rel => exact ⟨i + 1, by omega, by go_num, by rw [kidsB_succ]; exact HS6.out⟩
            case measure => simp only [RowKit.intOf]; omega
        · obtain rfl : i = 16 := by omega
          have hS := HS.out
          have RES : Hid (MetasAt wr w.heap.size B u8 (⟨-f - k, k + 1, f, root, ms, ss⟩ :: kidsB k f root ms ss 16) ∧ Below w.heap.size w wr) := Lib.hid ⟨hS.out.mono (by have := hS.pq; have := hS.lo; omega), hS.bel⟩
          clear hS HS
          go_wp2_with fail
          go_ret
          exact ⟨_, rfl, RES.out⟩
end Go.Proofs.YtklamgijikcnaaaDoor

namespace Go.Proofs.YtklamgijikcnaaaDoor
open Go.RowKit

set_option maxHeartbeats 2000000 in
set_option maxRecDepth 100000 in
theorem all_any (w : World) : Calls Tryd.prog 31 #[] w (BelRes w w.heap.size allN) := by
  have nil : ∀ w' : World, RowI w' w.heap.size (.slice none 0 0) [] := fun w' => ⟨none, 0, rfl, by simp, fun h => by simp at h⟩
  have HN := Lib.hid nil
  clear nil
  have B1 := Lib.hid (below_any 1 (by omega) 6 6 [] [] _ _ w w.heap.size (by omega) (by simp) (by simp) (HN.out w) (HN.out w) (Nat.le_refl _))
  rw [show ((1 : Nat) : Int) = 1 from rfl] at B1
  go_enter Tryd.func31, Tryd.ntmps31
  go_wp2_with fail
  refine B1.out.mono ?_
  rintro e w1 ⟨v1, rfl, ⟨L1, hown1, hm1⟩, hb1⟩
  have hz1 := hb1.size
  have B2 := Lib.hid (below_any 2 (by omega) 22 7 [] [] _ _ w1 w.heap.size (by omega) (by simp) (by simp) (HN.out w1) (HN.out w1) hz1)
  rw [show ((2 : Nat) : Int) = 2 from rfl] at B2
  have HO1 := Lib.hid hown1; have HM1 := Lib.hid hm1; have HB1 := Lib.hid hb1
  clear hown1 hm1 hb1 B1
  go_wp2_with fail
  refine B2.out.mono ?_
  rintro e w2 ⟨v2, rfl, ⟨L2, hown2, hm2⟩, hb2⟩
  have hl1 : L1.length ≤ 273 := by have := HM1.out.1; have := belowN_le 1 6 6 [] []; have := capB_le (k := 1) (by omega); omega
  have hl2 : L2.length ≤ 273 := by have := hm2.1; have := belowN_le 2 22 7 [] []; have := capB_le (k := 2) (by omega); omega
  have hz2 : w1.heap.size ≤ w2.heap.size := hb2.size
  have HO12 := Lib.hid (own_frame HO1.out (S := fun _ => False) (Fr.below hb2) (fun _ _ => id)); have HM12 := Lib.hid (HM1.out.below hb2)
  have HO2 := Lib.hid hown2; have HM2 := Lib.hid hm2; have HB2 := Lib.hid hb2
  clear hown2 hm2 hb2 B2
  go_wp2_with (refine wpList_append_g (by rfl) (.tmp 4) (.tmp 6) (by rfl) elMeta (by rfl) HO12.out (by rfl) (SrcG.of_own HO2.out HM2.out.one) (by unfold maxLen; omega) (by omega) (by omega) ?_)
  intro v3 w3 ho3 hf3 hv3
  obtain ⟨L3, hown3, hm3⟩ := MetasAt.grow HO12.out HM12.out HM2.out ho3 hf3
  have hb3 : Below w.heap.size w w3 := HB1.out.trans ((HB2.out.mono hz1).trans (hf3.toBelow (B := w.heap.size) (by omega) fun x hx => (HO12.out.lt _ hx).1))
  have hz3 : w.heap.size ≤ w3.heap.size := hb3.size
  have hl3 : L3.length ≤ 546 := by have := hm3.1; rw [List.length_append] at this; have := HM12.out.1; have := HM2.out.1; omega
  have B3 := Lib.hid (below_any 3 (by omega) 278 8 [] [] _ _ w3 w.heap.size (by omega) (by simp) (by simp) (HN.out w3) (HN.out w3) hz3)
  rw [show ((3 : Nat) : Int) = 3 from rfl] at B3
  have HO3 := Lib.hid hown3; have HM3 := Lib.hid hm3; have HB3 := Lib.hid hb3
  clear hown3 hm3 hb3 ho3 hf3 hv3 HO12 HM12 HO2 HM2 HB2 HO1 HM1 HB1
  go_wp2_with fail
  refine B3.out.mono ?_
  rintro e w4 ⟨v4, rfl, ⟨L4, hown4, hm4⟩, hb4⟩
  have hl4 : L4.length ≤ 273 := by have := hm4.1; have := belowN_le 3 278 8 [] []; have := capB_le (k := 3) (by omega); omega
  have hz4 : w3.heap.size ≤ w4.heap.size := hb4.size
  have HO34 := Lib.hid (own_frame HO3.out (S := fun _ => False) (Fr.below hb4) (fun _ _ => id)); have HM34 := Lib.hid (HM3.out.below hb4)
  have HO4 := Lib.hid hown4; have HM4 := Lib.hid hm4; have HB4 := Lib.hid hb4
  clear hown4 hm4 hb4 B3
  go_wp2_with (refine wpList_append_g (by rfl) (.tmp 8) (.tmp 10) (by rfl) elMeta (by rfl) HO34.out (by rfl) (SrcG.of_own HO4.out HM4.out.one) (by unfold maxLen; omega) (by omega) (by omega) ?_)
  intro v5 w5 ho5 hf5 hv5
  have RES : Hid (MetasAt w5 w.heap.size w.heap.size v5 allN ∧ Below w.heap.size w w5) := Lib.hid ⟨MetasAt.grow HO34.out HM34.out HM4.out ho5 hf5, HB3.out.trans ((HB4.out.mono hz3).trans (hf5.toBelow (B := w.heap.size) (by omega) fun x hx => (HO34.out.lt _ hx).1))⟩
  clear ho5 hf5 hv5
  go_wp2_with fail
  go_ret
  exact ⟨_, rfl, RES.out⟩
theorem allN_len : allN.length = 42 := by decide +kernel
theorem allN_first : ∀ m ∈ allN, 0 ≤ m.first ∧ m.first < 600 ∧ m.ms.length ≤ 3 ∧ m.ss.length ≤ 3 := by decide +kernel
theorem MetasAt.monoB {w : World} {B1 B B' : Nat} {v : Value} {R : List MetaR} (h : MetasAt w B1 B v R) (hb : B' ≤ B) : MetasAt w B1 B' v R := by
  obtain ⟨L, h1, h2, h3⟩ := h
  exact ⟨L, h1, h2, fun i x r hx hr => by
    have := h3 i x r hx hr
    exact ⟨this.n, this.lvl, this.first, this.root, this.ms.mono hb, this.ss.mono hb⟩⟩
/-- What Find says. -/
def hitR (n : Int) (m : MetaR) : Option MetaR :=
  if m.n = n then some m else if m.lvl = 1 ∧ m.first ≤ n ∧ n < m.first + 16 ∧ n < 600 then some ⟨n, 0, n, m.root, m.ms ++ [m.n], m.ss ++ [n - m.first]⟩ else none
def rfindN (n : Int) : Option MetaR := if 0 ≤ n ∧ n < 6 then some ⟨n, 0, n, n, [], []⟩ else allN.findSome? (hitR n)
def zeroM : MetaR := ⟨0, 0, 0, 0, [], []⟩
def RFind (n : Int) (w : World) (e : Ending) (w' : World) : Prop :=
  ∃ x : MetaV, e = .returned (.tuple #[.agg x.flat.toArray, .bool (rfindN n).isSome]) ∧ x.is w' w.heap.size ((rfindN n).getD zeroM) ∧ Below w.heap.size w w'
theorem findSome_no {α β : Type} {f : α → Option β} {l : List α} {j : Nat} (h : ∀ x ∈ l.take j, f x = none) : l.findSome? f = (l.drop j).findSome? f := by
  conv => lhs; rw [← List.take_append_drop j l]
  rw [List.findSome?_append, List.findSome?_eq_none_iff.2 h]
  rfl
theorem findSome_at {α β : Type} {f : α → Option β} {l : List α} {j : Nat} {x : α} {y : β} (h : ∀ x ∈ l.take j, f x = none) (hx : l[j]? = some x) (hy : f x = some y) : l.findSome? f = some y := by
  rw [findSome_no h]
  obtain ⟨hl, rfl⟩ := List.getElem?_eq_some_iff.1 hx
  rw [List.drop_eq_getElem_cons hl, List.findSome?_cons, hy]
end Go.Proofs.YtklamgijikcnaaaDoor

namespace Go.Proofs.YtklamgijikcnaaaDoor
open Go.RowKit

/-- What each operation of the region says that answers a data block. -/
-- FACTS
def F11 (Z qb tb : Nat) (n : Int) (r : MetaR) (mv sv : Value) (k : Nat) (y : Nat → Value) (tag : Nat → Nat) (w : World) : Prop :=
  match k with
  | 0 => y 0 = .int .i64 n
  | 1 => y 1 = .int .i64 n
  | 2 => y 2 = .pointer (some ⟨qb, 3, none⟩)
  | 3 => y 3 = .pointer (some ⟨qb, 3, none⟩)
  | 4 => y 4 = .int .i64 r.root
  | 5 => Hold tag 1 w Z (y 5) []
  | 6 => y 6 = .pointer (some ⟨qb, 3, none⟩)
  | 7 => y 7 = .pointer (some ⟨qb, 4, none⟩)
  | 8 => y 8 = mv
  | 9 => Hold tag 1 w Z (y 9) r.ms
  | 10 => y 10 = .pointer (some ⟨qb, 0, none⟩)
  | 11 => y 11 = .int .i64 r.n
  | 12 => Hold tag 2 w Z (y 12) [r.n]
  | 13 => Hold tag 1 w Z (y 13) (r.ms ++ [r.n])
  | 14 => Hold tag 3 w Z (y 14) []
  | 15 => y 15 = .pointer (some ⟨qb, 3, none⟩)
  | 16 => y 16 = .pointer (some ⟨qb, 5, none⟩)
  | 17 => y 17 = sv
  | 18 => Hold tag 3 w Z (y 18) r.ss
  | 19 => y 19 = .int .i64 n
  | 20 => y 20 = .pointer (some ⟨qb, 2, none⟩)
  | 21 => y 21 = .int .i64 r.first
  | 22 => y 22 = .int .i64 (n - r.first)
  | 23 => Hold tag 4 w Z (y 23) [n - r.first]
  | 24 => Hold tag 3 w Z (y 24) (r.ss ++ [n - r.first])
  | 25 => ∃ a13 c13 a24 c24, y 13 = .slice a13 (r.ms.length + 1) c13 ∧ y 24 = .slice a24 (r.ss.length + 1) c24 ∧ y 25 = .agg #[.int .i64 r.root, .slice a13 (r.ms.length + 1) c13, .slice a24 (r.ss.length + 1) c24]
  | 26 => ∃ vM vS, y 25 = .agg #[.int .i64 r.root, vM, vS] ∧ y 26 = .agg #[.int .i64 n, .int .i64 0, .int .i64 n, .int .i64 r.root, vM, vS]
  | 27 => w.heap[tb]? = some (.cells #[.int .i64 n, .int .i64 0, .int .i64 n, .int .i64 r.root, y 13, y 24] 34 (0, 0))
  | 28 => y 28 = .bool true
  | _ => True
def C11 : Nat → List Nat
  | 5 => [9] | 9 => [13] | 12 => [13] | 14 => [18] | 18 => [24] | 23 => [24] | _ => []
theorem lt29 {k : Nat} (h : k < 29) : k = 0 ∨ k = 1 ∨ k = 2 ∨ k = 3 ∨ k = 4 ∨ k = 5 ∨ k = 6 ∨ k = 7 ∨ k = 8 ∨ k = 9 ∨ k = 10 ∨ k = 11 ∨ k = 12 ∨ k = 13 ∨ k = 14 ∨ k = 15 ∨ k = 16 ∨ k = 17 ∨ k = 18 ∨ k = 19 ∨ k = 20 ∨ k = 21 ∨ k = 22 ∨ k = 23 ∨ k = 24 ∨ k = 25 ∨ k = 26 ∨ k = 27 ∨ k = 28 := by omega
-- END FACTS
/-- While All's blocks are gone through. -/
structure FindSt (n : Int) (w : World) (v : Value) (j : Nat) (wr : World) : Prop where
  ms : MetasAt wr w.heap.size w.heap.size v allN
  box : wr.heap[w.heap.size]? = some (.cells #[.int .i64 0, .int .i64 0, .int .i64 0, .int .i64 0, .slice none 0 0, .slice none 0 0] 34 (0, 0))
  bel : Below w.heap.size w wr
  no : ∀ x ∈ allN.take j, hitR n x = none
theorem FindSt.below {n : Int} {w wr w' : World} {v : Value} {j : Nat} (h : FindSt n w v j wr) (hb : Below wr.heap.size wr w') : FindSt n w v j w' :=
  ⟨h.ms.below hb, (hb.block _ (blk_lt h.box)).trans h.box, below_call h.bel hb (Nat.le_refl _), h.no⟩
set_option maxHeartbeats 4000000 in
set_option maxRecDepth 100000 in
theorem rfind_any (n : Int) (w : World) : Calls Tryd.prog 12 #[.int .i64 n] w (RFind n w) := by
  have nil : ∀ w' : World, RowI w' w.heap.size (.slice none 0 0) [] := fun w' => ⟨none, 0, rfl, by simp, fun h => by simp at h⟩
  have HN := Lib.hid nil
  clear nil
  by_cases h6 : 0 ≤ n ∧ n < 6
  · obtain ⟨h0, h1⟩ := h6
    have hr : rfindN n = some ⟨n, 0, n, n, [], []⟩ := by unfold rfindN; rw [if_pos ⟨h0, h1⟩]
    have HR := Lib.hid hr
    clear hr
    go_enter Tryd.func12, Tryd.ntmps12
    go_wp2_with fail
    refine bodyPost_ret (results_row_tmp rfl _ _ w.heap.size _ _ _ _ rfl (blk_new rfl) Tryd.underlying34 rfl (by kernel_rfl)) rfl ?_
    refine ⟨⟨n, 0, n, n, .slice none 0 0, .slice none 0 0⟩, by rw [HR.out]; rfl, ?_, (Below.refl _ _).alloc (Nat.le_refl _) _⟩
    rw [HR.out]
    exact ⟨rfl, rfl, rfl, rfl, HN.out _, HN.out _⟩
  · have hno : rfindN n = allN.findSome? (hitR n) := by unfold rfindN; rw [if_neg h6]
    have HR := Lib.hid hno
    have hcase : n < 0 ∨ 0 ≤ n ∧ 6 ≤ n := by omega
    clear hno h6
    have HA := Lib.hid (all_any (w.alloc (.cells #[.int .i64 0, .int .i64 0, .int .i64 0, .int .i64 0, .slice none 0 0, .slice none 0 0] 34)))
    go_enter Tryd.func12, Tryd.ntmps12
    go_upto_region 1 with fail
    go_cut [12] (fun t wx => t = .bool false ∧ wx = w.alloc (.cells #[.int .i64 0, .int .i64 0, .int .i64 0, .int .i64 0, .slice none 0 0, .slice none 0 0] 34))
    case first =>
      rcases hcase with h | ⟨h, h'⟩
      · go_wp2_with fail
        go_meet
        case rel => exact ⟨rfl, rfl⟩
      · have h'' : decide (n < 6) = false := by simpa using h'
        go_wp2_with fail
        go_meet
        case rel => exact ⟨rfl, rfl⟩
    case rest =>
      obtain ⟨rfl, rfl⟩ := hcut
      go_wp2_with fail
      refine HA.out.mono ?_
      rintro e w1 ⟨v1, rfl, hM1, hb1⟩
      have hst : FindSt n w v1 0 w1 := ⟨(hM1.mono (B2 := w.heap.size) (by simp)).monoB (by simp), (hb1.block _ (by simp)).trans (blk_new rfl), ((Below.refl _ w).alloc (Nat.le_refl _) _).trans (hb1.mono (by simp)), fun x hx => by rw [List.take_zero] at hx; cases hx⟩
      obtain ⟨a1, c1, rfl⟩ := hM1.shape
      rw [allN_len] at hst
      rw [allN_len]
      have K0 := Lib.hid hst
      clear hst hM1 hb1 HA hcase
      go_wp2_with fail
      go_loopw [21] (fun idx wr => ∃ j : Nat, j ≤ 42 ∧ idx = .int .i64 j ∧ FindSt n w (.slice a1 42 c1) j wr) (fun idx _ => 42 - (RowKit.intOf idx).toNat)
      case atStart => exact ⟨0, by omega, rfl, K0.out⟩
      case round =>
        obtain ⟨j, hj, rfl, hst⟩ := hrel
        clear K0
        have HS := Lib.hid hst
        clear hst
        by_cases hjl : j < 42
        · obtain ⟨r, hr⟩ : ∃ r, allN[j]? = some r := ⟨_, List.getElem?_eq_getElem (by rw [allN_len]; exact hjl)⟩
          obtain ⟨hf0, hf1, hl1, hl2⟩ := allN_first r (List.mem_of_getElem? hr)
          obtain ⟨g, c, he, hlc, _, hgl, hcell⟩ := HS.out.ms.cells (by rw [allN_len]; omega)
          rw [allN_len] at hlc
          injection he with h1 h3 h2
          clear h3
          subst h1 h2
          obtain ⟨x, hx, hc⟩ := hcell j r hr
          obtain ⟨ma, mc, em⟩ := hx.ms.shape
          obtain ⟨sa, sc, es⟩ := hx.ss.shape
          have k0 : wr.cell? ⟨g, j * 6, none⟩ = some (.int .i64 r.n) := hc 0 _ (by omega) (by rw [← hx.n]; rfl)
          have k1 : wr.cell? ⟨g, j * 6 + 1, none⟩ = some (.int .i64 r.lvl) := hc 1 _ (by omega) (by rw [← hx.lvl]; rfl)
          have k2 : wr.cell? ⟨g, j * 6 + 2, none⟩ = some (.int .i64 r.first) := hc 2 _ (by omega) (by rw [← hx.first]; rfl)
          have k3 : wr.cell? ⟨g, j * 6 + 3, none⟩ = some (.int .i64 r.root) := hc 3 _ (by omega) (by rw [← hx.root]; rfl)
          have k4 : wr.cell? ⟨g, j * 6 + 4, none⟩ = some (.slice ma r.ms.length mc) := hc 4 _ (by omega) (by rw [← em]; rfl)
          have k5 : wr.cell? ⟨g, j * 6 + 5, none⟩ = some (.slice sa r.ss.length sc) := hc 5 _ (by omega) (by rw [← es]; rfl)
          have b0 : (0 : Int) ≤ (j : Int) := by omega
          have b1 : (j : Int) < 42 := by omega
          obtain ⟨w4, hw4⟩ : ∃ w4, w4 = wr.alloc (.cells #[.int .i64 r.n, .int .i64 r.lvl, .int .i64 r.first, .int .i64 r.root, .slice ma r.ms.length mc, .slice sa r.ss.length sc] 34) := ⟨_, rfl⟩
          have hb4 : Below wr.heap.size wr w4 := by rw [hw4]; exact (Below.refl _ wr).alloc (Nat.le_refl _) _
          have ob : w4.heap[wr.heap.size]? = some (.cells #[.int .i64 r.n, .int .i64 r.lvl, .int .i64 r.first, .int .i64 r.root, .slice ma r.ms.length mc, .slice sa r.ss.length sc] 34 (0, 0)) := by rw [hw4]; exact blk_new rfl
          have hqs : w.heap.size < wr.heap.size := by have := blk_lt HS.out.box; omega
          have hms := hx.ms.below hb4
          have hss := hx.ss.below hb4
          rw [em] at hms
          rw [es] at hss
          have S4 := Lib.hid (HS.out.below hb4); have HMS := Lib.hid hms; have HSS := Lib.hid hss; have OB := Lib.hid ob; have HRJ := Lib.hid hr
          clear hcell hc hx em es hb4 hms hss ob hr
          go_upto_if 31 with fail
          rw [← hw4]
          clear hw4 k0 k1 k2 k3 k4 k5 HS
          generalize wr.heap.size = qb at OB hqs ⊢
          clear hgl
          have k0 := cell_blk_some OB.out (i := 0) rfl
          have k1 := cell_blk_some OB.out (i := 1) rfl
          have k2 := cell_blk_some OB.out (i := 2) rfl
          have k3 := cell_blk_some OB.out (i := 3) rfl
          have k4 := cell_blk_some OB.out (i := 4) rfl
          have k5 := cell_blk_some OB.out (i := 5) rfl
          have BX := Lib.hid S4.out.box
          have p0 := cell_blk_some BX.out (i := 0) rfl
          have p1 := cell_blk_some BX.out (i := 1) rfl
          have p2 := cell_blk_some BX.out (i := 2) rfl
          have p3 := cell_blk_some BX.out (i := 3) rfl
          have p4 := cell_blk_some BX.out (i := 4) rfl
          have p5 := cell_blk_some BX.out (i := 5) rfl
          have z0 := free_blk BX.out (i := 0)
          have z1 := free_blk BX.out (i := 1)
          have z2 := free_blk BX.out (i := 2)
          have z3 := free_blk BX.out (i := 3)
          have z4 := free_blk BX.out (i := 4)
          have z5 := free_blk BX.out (i := 5)
          by_cases hn : r.n = n
          · have q1 : (r.n == n) = true := beq_iff_eq.2 hn
            have HH : Hid (rfindN n = some r) := Lib.hid (by rw [HR.out]; exact findSome_at S4.out.no HRJ.out (by unfold hitR; rw [if_pos hn]))
            clear hn
            go_wp2_with fail
            have b6 := blk_set (i := 5) (blk_set (i := 4) (blk_set (i := 3) (blk_set (i := 2) (blk_set (i := 1) (blk_set (i := 0) BX.out (.int .i64 r.n)) (.int .i64 r.lvl)) (.int .i64 r.first)) (.int .i64 r.root)) (.slice ma r.ms.length mc)) (.slice sa r.ss.length sc)
            refine bodyPost_ret (results_row_tmp rfl _ _ w.heap.size _ _ _ _ rfl b6 Tryd.underlying34 rfl (by kernel_rfl)) rfl ?_
            refine ⟨⟨r.n, r.lvl, r.first, r.root, .slice ma r.ms.length mc, .slice sa r.ss.length sc⟩, by rw [HH.out]; rfl, ?_, ?_⟩
            · rw [HH.out]
              have hW6 := ((((((Fr.refl (fun g => g = w.heap.size) w4).setCell ⟨w.heap.size, 0, none⟩ rfl (.int .i64 r.n)).setCell ⟨w.heap.size, 1, none⟩ rfl (.int .i64 r.lvl)).setCell ⟨w.heap.size, 2, none⟩ rfl (.int .i64 r.first)).setCell ⟨w.heap.size, 3, none⟩ rfl (.int .i64 r.root)).setCell ⟨w.heap.size, 4, none⟩ rfl (.slice ma r.ms.length mc)).setCell ⟨w.heap.size, 5, none⟩ rfl (.slice sa r.ss.length sc)
              exact ⟨rfl, rfl, rfl, rfl, HMS.out.fr' hW6 fun h => HMS.out.off_blk h BX.out, HSS.out.fr' hW6 fun h => HSS.out.off_blk h BX.out⟩
            · exact S4.out.bel.trans ((((((((Fr.refl (fun g => g = w.heap.size) w4).setCell ⟨w.heap.size, 0, none⟩ rfl _).setCell ⟨w.heap.size, 1, none⟩ rfl _).setCell ⟨w.heap.size, 2, none⟩ rfl _).setCell ⟨w.heap.size, 3, none⟩ rfl _).setCell ⟨w.heap.size, 4, none⟩ rfl _).setCell ⟨w.heap.size, 5, none⟩ rfl _).toBelow (B := w.heap.size) S4.out.bel.size fun x hx => by rw [show x = w.heap.size from hx]; exact Nat.le_refl _)
          · have q1 : (r.n == n) = false := beq_eq_false_iff_ne.2 hn
            by_cases hp : r.lvl = 1 ∧ r.first ≤ n ∧ n < r.first + 16 ∧ n < 600
            · obtain ⟨g1, g2, g3, g4⟩ := hp
              have e1 : (r.lvl == 1) = true := beq_iff_eq.2 g1
              have e2 : decide (n < r.first + 16) = true := decide_eq_true g3
              have e3 : decide (r.first ≤ n) = true := decide_eq_true g2
              have e4 : decide (n < 600) = true := decide_eq_true g4
              go_wp2_with fail
              have HRES : Hid (rfindN n = some ⟨n, 0, n, r.root, r.ms ++ [r.n], r.ss ++ [n - r.first]⟩) := Lib.hid (by rw [HR.out]; exact findSome_at S4.out.no HRJ.out (by unfold hitR; rw [if_neg hn, if_pos ⟨g1, g2, g3, g4⟩]))
              have hsubw : IntKind.i64.wrap (n - r.first) = n - r.first := IntWalk.i64_in _ (by omega)
              generalize (r.n == n) = bn
              obtain ⟨w0, hw0⟩ : ∃ w0, w0 = w4.drew := ⟨_, rfl⟩
              have hbel : Below w.heap.size w w0 := by rw [hw0]; exact (show Below w.heap.size w (w4.drewN 1) from below_drewN S4.out.bel 1)
              have HQ0 : Hid (w0.heap[qb]? = some (.cells #[.int .i64 r.n, .int .i64 r.lvl, .int .i64 r.first, .int .i64 r.root, .slice ma r.ms.length mc, .slice sa r.ss.length sc] 34 (0, 0))) := Lib.hid (by rw [hw0]; exact OB.out)
              have HT0 : Hid (w0.heap[w.heap.size]? = some (.cells #[.int .i64 0, .int .i64 0, .int .i64 0, .int .i64 0, .slice none 0 0, .slice none 0 0] 34 (0, 0))) := Lib.hid (by rw [hw0]; exact BX.out)
              have HMR : Hid (RowI w0 w.heap.size (.slice ma r.ms.length mc) r.ms) := Lib.hid (by rw [hw0]; exact HMS.out)
              have HSR : Hid (RowI w0 w.heap.size (.slice sa r.ss.length sc) r.ss) := Lib.hid (by rw [hw0]; exact HSS.out)
              have HBEL := Lib.hid hbel
              have HQN : Hid (¬ qb = w.heap.size) := Lib.hid (by omega)
              obtain ⟨wz, hwz⟩ : ∃ wz, wz = w0.heap.size := ⟨_, rfl⟩
              have HZ0 : Hid (w0.heap.size = wz) := Lib.hid hwz.symm
              have HTZ : Hid (w.heap.size < wz) := Lib.hid (by rw [hwz]; exact blk_lt HT0.out)
              have HMN := Lib.hid (fun h => HMR.out.off_blk h HT0.out)
              have HSN := Lib.hid (fun h => HSR.out.off_blk h HT0.out)
              clear k0 k1 k2 k3 k4 k5 p0 p1 p2 p3 p4 p5 z0 z1 z2 z3 z4 z5 hbel hwz hn e1 e2 e3 e4 S4 OB BX HMS HSS g1
              -- STEPS
              refine wp_region_facts (frame := fun y => ⟨#[.int .i64 n, undef, .pointer (some ⟨w.heap.size, 0, none⟩), y 28, .slice (some ⟨g, 0, none⟩) 42 c1, .int .i64 ↑j, .pointer (some ⟨qb, 0, none⟩), u7, u8, u9, u10, u11, .bool false, u13, u14, u15, u16, u17, .slice (some ⟨g, 0, none⟩) 42 c1, .slice (some ⟨g, 0, none⟩) 42 c1, .int .i64 42, .int .i64 ↑j, .bool true, .int .i64 ↑j, .slice (some ⟨g, 0, none⟩) 42 c1, .int .i64 ↑j, .pointer (some ⟨g, j * 6, none⟩), .agg #[.int .i64 r.n, .int .i64 r.lvl, .int .i64 r.first, .int .i64 r.root, .slice ma r.ms.length mc, .slice sa r.ss.length sc], .pointer (some ⟨qb, 0, none⟩), .int .i64 r.n, .int .i64 n, .bool bn, u32, .pointer (some ⟨qb, 1, none⟩), .int .i64 1, .bool true, .bool true, .int .i64 n, .pointer (some ⟨qb, 2, none⟩), .int .i64 r.first, .bool true, .bool true, .bool true, .int .i64 n, .pointer (some ⟨qb, 2, none⟩), .int .i64 r.first, .int .i64 (r.first + 16), .bool true, .bool true, .bool true, .int .i64 n, .bool true, .bool true, y 0, y 1, y 2, y 3, y 4, y 5, y 6, y 7, y 8, y 9, y 10, y 11, y 12, y 13, y 14, y 15, y 16, y 17, y 18, y 19, y 20, y 21, y 22, y 23, y 24, y 25, y 26, u80, u81], []⟩) (I := fun b _ w2 => Fr (fun g => g = w.heap.size) w0 w2 ∧ (b 27 = false → w2.heap[w.heap.size]? = w0.heap[w.heap.size]?))
                (F := F11 wz qb w.heap.size n r (.slice ma r.ms.length mc) (.slice sa r.ss.length sc)) (cons := C11) (fun k => [u53, u54, u55, u56, u57, u58, u59, u60, u61, u62, u63, u64, u65, u66, u67, u68, u69, u70, u71, u72, u73, u74, u75, u76, u77, u78, u79, undef, u3].getD k undef) (fun _ => 0) (by kernel_rfl) (by kernel_rfl) rfl (by rw [hw0]; exact ⟨Fr.refl _ _, fun _ => rfl⟩) ?_ ?_
              refine ⟨?_, ?_, ?_, ?_, ?_, ?_, ?_, ?_, ?_, ?_, ?_, ?_, ?_, ?_, ?_, ?_, ?_, ?_, ?_, ?_, ?_, ?_, ?_, ?_, ?_, ?_, ?_, ?_, ?_, trivial⟩
              · intro y tag w2 b hb hI hp K hK
                go_simp
                refine hK (.int .i64 n) tag _ w2 rfl hI rfl ?_
                · intro k ok hok hk hp hc hF
                  rcases lt29 (Array.getElem?_eq_some_iff.1 hok).1 with rfl | rfl | rfl | rfl | rfl | rfl | rfl | rfl | rfl | rfl | rfl | rfl | rfl | rfl | rfl | rfl | rfl | rfl | rfl | rfl | rfl | rfl | rfl | rfl | rfl | rfl | rfl | rfl | rfl
                  all_goals first | exact hF | exact (hk rfl).elim | exact ((hc _ List.mem_cons_self).1 rfl).elim | exact ((hc _ List.mem_cons_self).2 (by obtain rfl := Option.some.inj hok; decide)).elim | exact (hp (by obtain rfl := Option.some.inj hok; decide)).elim
              · intro y tag w2 b hb hI hp K hK
                go_simp
                refine hK (.int .i64 n) tag _ w2 rfl hI rfl ?_
                · intro k ok hok hk hp hc hF
                  rcases lt29 (Array.getElem?_eq_some_iff.1 hok).1 with rfl | rfl | rfl | rfl | rfl | rfl | rfl | rfl | rfl | rfl | rfl | rfl | rfl | rfl | rfl | rfl | rfl | rfl | rfl | rfl | rfl | rfl | rfl | rfl | rfl | rfl | rfl | rfl | rfl
                  all_goals first | exact hF | exact (hk rfl).elim | exact ((hc _ List.mem_cons_self).1 rfl).elim | exact ((hc _ List.mem_cons_self).2 (by obtain rfl := Option.some.inj hok; decide)).elim | exact (hp (by obtain rfl := Option.some.inj hok; decide)).elim
              · intro y tag w2 b hb hI hp K hK
                go_simp
                refine hK (.pointer (some ⟨qb, 3, none⟩)) tag _ w2 rfl hI rfl ?_
                · intro k ok hok hk hp hc hF
                  rcases lt29 (Array.getElem?_eq_some_iff.1 hok).1 with rfl | rfl | rfl | rfl | rfl | rfl | rfl | rfl | rfl | rfl | rfl | rfl | rfl | rfl | rfl | rfl | rfl | rfl | rfl | rfl | rfl | rfl | rfl | rfl | rfl | rfl | rfl | rfl | rfl
                  all_goals first | exact hF | exact (hk rfl).elim | exact ((hc _ List.mem_cons_self).1 rfl).elim | exact ((hc _ List.mem_cons_self).2 (by obtain rfl := Option.some.inj hok; decide)).elim | exact (hp (by obtain rfl := Option.some.inj hok; decide)).elim
              · intro y tag w2 b hb hI hp K hK
                have h2 : y 2 = .pointer (some ⟨qb, 3, none⟩) := hp 2 (by decide) (fun c hc => by cases hc)
                go_simp
                refine hK (.pointer (some ⟨qb, 3, none⟩)) tag _ w2 (by simp [updV, h2]) hI rfl ?_
                · intro k ok hok hk hp hc hF
                  rcases lt29 (Array.getElem?_eq_some_iff.1 hok).1 with rfl | rfl | rfl | rfl | rfl | rfl | rfl | rfl | rfl | rfl | rfl | rfl | rfl | rfl | rfl | rfl | rfl | rfl | rfl | rfl | rfl | rfl | rfl | rfl | rfl | rfl | rfl | rfl | rfl
                  all_goals first | exact hF | exact (hk rfl).elim | exact ((hc _ List.mem_cons_self).1 rfl).elim | exact ((hc _ List.mem_cons_self).2 (by obtain rfl := Option.some.inj hok; decide)).elim | exact (hp (by obtain rfl := Option.some.inj hok; decide)).elim
              · intro y tag w2 b hb hI hp K hK
                have h3 : y 3 = .pointer (some ⟨qb, 3, none⟩) := hp 3 (by decide) (fun c hc => by cases hc)
                have c0 : w2.cell? ⟨qb, 3, none⟩ = some (.int .i64 r.root) := cell_blk_some ((hI.1.block qb (blk_lt HQ0.out) HQN.out).trans HQ0.out) rfl
                go_simp
                refine hK (.int .i64 r.root) tag _ w2 (by simp [updV, h3]) hI rfl ?_
                · intro k ok hok hk hp hc hF
                  rcases lt29 (Array.getElem?_eq_some_iff.1 hok).1 with rfl | rfl | rfl | rfl | rfl | rfl | rfl | rfl | rfl | rfl | rfl | rfl | rfl | rfl | rfl | rfl | rfl | rfl | rfl | rfl | rfl | rfl | rfl | rfl | rfl | rfl | rfl | rfl | rfl
                  all_goals first | exact hF | exact (hk rfl).elim | exact ((hc _ List.mem_cons_self).1 rfl).elim | exact ((hc _ List.mem_cons_self).2 (by obtain rfl := Option.some.inj hok; decide)).elim | exact (hp (by obtain rfl := Option.some.inj hok; decide)).elim
              · intro y tag w2 b hb hI hp K hK
                have hz : wz ≤ w2.heap.size := by have := hI.1.size; rw [HZ0.out] at this; exact this
                go_simp
                refine hK (.slice (some ⟨w2.heap.size, 0, none⟩) 0 0) (updT tag w2.heap.size 1) _ (w2.alloc (.cells #[] 3)) rfl (allocI hI HT0.out _) (Hold.new tag 1 w2 _ #[] [] rfl hz) ?_
                · intro k ok hok hk hp hc hF
                  rcases lt29 (Array.getElem?_eq_some_iff.1 hok).1 with rfl | rfl | rfl | rfl | rfl | rfl | rfl | rfl | rfl | rfl | rfl | rfl | rfl | rfl | rfl | rfl | rfl | rfl | rfl | rfl | rfl | rfl | rfl | rfl | rfl | rfl | rfl | rfl | rfl
                  all_goals first | exact Hold.alloc hF _ _ | exact hF | exact (hk rfl).elim | exact ((hc _ List.mem_cons_self).1 rfl).elim | exact ((hc _ List.mem_cons_self).2 (by obtain rfl := Option.some.inj hok; decide)).elim | exact (hp (by obtain rfl := Option.some.inj hok; decide)).elim
              · intro y tag w2 b hb hI hp K hK
                go_simp
                refine hK (.pointer (some ⟨qb, 3, none⟩)) tag _ w2 rfl hI rfl ?_
                · intro k ok hok hk hp hc hF
                  rcases lt29 (Array.getElem?_eq_some_iff.1 hok).1 with rfl | rfl | rfl | rfl | rfl | rfl | rfl | rfl | rfl | rfl | rfl | rfl | rfl | rfl | rfl | rfl | rfl | rfl | rfl | rfl | rfl | rfl | rfl | rfl | rfl | rfl | rfl | rfl | rfl
                  all_goals first | exact hF | exact (hk rfl).elim | exact ((hc _ List.mem_cons_self).1 rfl).elim | exact ((hc _ List.mem_cons_self).2 (by obtain rfl := Option.some.inj hok; decide)).elim | exact (hp (by obtain rfl := Option.some.inj hok; decide)).elim
              · intro y tag w2 b hb hI hp K hK
                have h6 : y 6 = .pointer (some ⟨qb, 3, none⟩) := hp 6 (by decide) (fun c hc => by cases hc)
                go_simp
                refine hK (.pointer (some ⟨qb, 4, none⟩)) tag _ w2 (by simp [updV, h6]) hI rfl ?_
                · intro k ok hok hk hp hc hF
                  rcases lt29 (Array.getElem?_eq_some_iff.1 hok).1 with rfl | rfl | rfl | rfl | rfl | rfl | rfl | rfl | rfl | rfl | rfl | rfl | rfl | rfl | rfl | rfl | rfl | rfl | rfl | rfl | rfl | rfl | rfl | rfl | rfl | rfl | rfl | rfl | rfl
                  all_goals first | exact hF | exact (hk rfl).elim | exact ((hc _ List.mem_cons_self).1 rfl).elim | exact ((hc _ List.mem_cons_self).2 (by obtain rfl := Option.some.inj hok; decide)).elim | exact (hp (by obtain rfl := Option.some.inj hok; decide)).elim
              · intro y tag w2 b hb hI hp K hK
                have h7 : y 7 = .pointer (some ⟨qb, 4, none⟩) := hp 7 (by decide) (fun c hc => by cases hc)
                have c0 : w2.cell? ⟨qb, 4, none⟩ = some (.slice ma r.ms.length mc) := cell_blk_some ((hI.1.block qb (blk_lt HQ0.out) HQN.out).trans HQ0.out) rfl
                go_simp
                refine hK (.slice ma r.ms.length mc) tag _ w2 (by simp [updV, h7]) hI rfl ?_
                · intro k ok hok hk hp hc hF
                  rcases lt29 (Array.getElem?_eq_some_iff.1 hok).1 with rfl | rfl | rfl | rfl | rfl | rfl | rfl | rfl | rfl | rfl | rfl | rfl | rfl | rfl | rfl | rfl | rfl | rfl | rfl | rfl | rfl | rfl | rfl | rfl | rfl | rfl | rfl | rfl | rfl
                  all_goals first | exact hF | exact (hk rfl).elim | exact ((hc _ List.mem_cons_self).1 rfl).elim | exact ((hc _ List.mem_cons_self).2 (by obtain rfl := Option.some.inj hok; decide)).elim | exact (hp (by obtain rfl := Option.some.inj hok; decide)).elim
              · intro y tag w2 b hb hI hp K hK
                have h5 : Hold tag 1 w2 wz (y 5) [] := hp 5 (by decide) (fun c hc => by simpa [C11] using hc)
                have h8 : y 8 = .slice ma r.ms.length mc := hp 8 (by decide) (fun c hc => by cases hc)
                have hz : wz ≤ w2.heap.size := by have := hI.1.size; rw [HZ0.out] at this; exact this
                refine step_append_rows rfl (.tmp 58) (.tmp 61) rfl rfl h5.own h8 (HMR.out.fr' hI.1 HMN.out) (by simp; try omega) hz ?_
                intro v w3 ho hf hv
                refine hK v (updT tag w2.heap.size 1) _ w3 rfl (growI hI hf HT0.out HZ0.out (fun g hg => (h5.own.lt g hg).1)) (h5.grow ho hv) ?_
                · intro k ok hok hk hp hc hF
                  rcases lt29 (Array.getElem?_eq_some_iff.1 hok).1 with rfl | rfl | rfl | rfl | rfl | rfl | rfl | rfl | rfl | rfl | rfl | rfl | rfl | rfl | rfl | rfl | rfl | rfl | rfl | rfl | rfl | rfl | rfl | rfl | rfl | rfl | rfl | rfl | rfl
                  all_goals first | exact Hold.other hF h5 hf (by decide) | exact hF | exact (hk rfl).elim | exact ((hc _ List.mem_cons_self).1 rfl).elim | exact ((hc _ List.mem_cons_self).2 (by obtain rfl := Option.some.inj hok; decide)).elim | exact (hp (by obtain rfl := Option.some.inj hok; decide)).elim
              · intro y tag w2 b hb hI hp K hK
                go_simp
                refine hK (.pointer (some ⟨qb, 0, none⟩)) tag _ w2 rfl hI rfl ?_
                · intro k ok hok hk hp hc hF
                  rcases lt29 (Array.getElem?_eq_some_iff.1 hok).1 with rfl | rfl | rfl | rfl | rfl | rfl | rfl | rfl | rfl | rfl | rfl | rfl | rfl | rfl | rfl | rfl | rfl | rfl | rfl | rfl | rfl | rfl | rfl | rfl | rfl | rfl | rfl | rfl | rfl
                  all_goals first | exact hF | exact (hk rfl).elim | exact ((hc _ List.mem_cons_self).1 rfl).elim | exact ((hc _ List.mem_cons_self).2 (by obtain rfl := Option.some.inj hok; decide)).elim | exact (hp (by obtain rfl := Option.some.inj hok; decide)).elim
              · intro y tag w2 b hb hI hp K hK
                have h10 : y 10 = .pointer (some ⟨qb, 0, none⟩) := hp 10 (by decide) (fun c hc => by cases hc)
                have c0 : w2.cell? ⟨qb, 0, none⟩ = some (.int .i64 r.n) := cell_blk_some ((hI.1.block qb (blk_lt HQ0.out) HQN.out).trans HQ0.out) rfl
                go_simp
                refine hK (.int .i64 r.n) tag _ w2 (by simp [updV, h10]) hI rfl ?_
                · intro k ok hok hk hp hc hF
                  rcases lt29 (Array.getElem?_eq_some_iff.1 hok).1 with rfl | rfl | rfl | rfl | rfl | rfl | rfl | rfl | rfl | rfl | rfl | rfl | rfl | rfl | rfl | rfl | rfl | rfl | rfl | rfl | rfl | rfl | rfl | rfl | rfl | rfl | rfl | rfl | rfl
                  all_goals first | exact hF | exact (hk rfl).elim | exact ((hc _ List.mem_cons_self).1 rfl).elim | exact ((hc _ List.mem_cons_self).2 (by obtain rfl := Option.some.inj hok; decide)).elim | exact (hp (by obtain rfl := Option.some.inj hok; decide)).elim
              · intro y tag w2 b hb hI hp K hK
                have h11 : y 11 = .int .i64 r.n := hp 11 (by decide) (fun c hc => by cases hc)
                have hz : wz ≤ w2.heap.size := by have := hI.1.size; rw [HZ0.out] at this; exact this
                go_simp
                refine hK (.slice (some ⟨w2.heap.size, 0, none⟩) 1 1) (updT tag w2.heap.size 2) _ (w2.alloc (.cells #[.int .i64 r.n] 3)) (by simp [updV, h11]) (allocI hI HT0.out _) (Hold.new tag 2 w2 _ #[.int .i64 r.n] [r.n] rfl hz) ?_
                · intro k ok hok hk hp hc hF
                  rcases lt29 (Array.getElem?_eq_some_iff.1 hok).1 with rfl | rfl | rfl | rfl | rfl | rfl | rfl | rfl | rfl | rfl | rfl | rfl | rfl | rfl | rfl | rfl | rfl | rfl | rfl | rfl | rfl | rfl | rfl | rfl | rfl | rfl | rfl | rfl | rfl
                  all_goals first | exact Hold.alloc hF _ _ | exact hF | exact (hk rfl).elim | exact ((hc _ List.mem_cons_self).1 rfl).elim | exact ((hc _ List.mem_cons_self).2 (by obtain rfl := Option.some.inj hok; decide)).elim | exact (hp (by obtain rfl := Option.some.inj hok; decide)).elim
              · intro y tag w2 b hb hI hp K hK
                have h9 : Hold tag 1 w2 wz (y 9) r.ms := hp 9 (by decide) (fun c hc => by simpa [C11] using hc)
                have h12 : Hold tag 2 w2 wz (y 12) [r.n] := hp 12 (by decide) (fun c hc => by simpa [C11] using hc)
                have hz : wz ≤ w2.heap.size := by have := hI.1.size; rw [HZ0.out] at this; exact this
                refine step_append_rows rfl (.tmp 62) (.tmp 65) rfl rfl h9.own rfl h12.own.row (by simp; try omega) hz ?_
                intro v w3 ho hf hv
                refine hK v (updT tag w2.heap.size 1) _ w3 rfl (growI hI hf HT0.out HZ0.out (fun g hg => (h9.own.lt g hg).1)) (h9.grow ho hv) ?_
                · intro k ok hok hk hp hc hF
                  rcases lt29 (Array.getElem?_eq_some_iff.1 hok).1 with rfl | rfl | rfl | rfl | rfl | rfl | rfl | rfl | rfl | rfl | rfl | rfl | rfl | rfl | rfl | rfl | rfl | rfl | rfl | rfl | rfl | rfl | rfl | rfl | rfl | rfl | rfl | rfl | rfl
                  all_goals first | exact Hold.other hF h9 hf (by decide) | exact hF | exact (hk rfl).elim | exact ((hc _ List.mem_cons_self).1 rfl).elim | exact ((hc _ List.mem_cons_self).2 (by obtain rfl := Option.some.inj hok; decide)).elim | exact (hp (by obtain rfl := Option.some.inj hok; decide)).elim
              · intro y tag w2 b hb hI hp K hK
                have hz : wz ≤ w2.heap.size := by have := hI.1.size; rw [HZ0.out] at this; exact this
                go_simp
                refine hK (.slice (some ⟨w2.heap.size, 0, none⟩) 0 0) (updT tag w2.heap.size 3) _ (w2.alloc (.cells #[] 3)) rfl (allocI hI HT0.out _) (Hold.new tag 3 w2 _ #[] [] rfl hz) ?_
                · intro k ok hok hk hp hc hF
                  rcases lt29 (Array.getElem?_eq_some_iff.1 hok).1 with rfl | rfl | rfl | rfl | rfl | rfl | rfl | rfl | rfl | rfl | rfl | rfl | rfl | rfl | rfl | rfl | rfl | rfl | rfl | rfl | rfl | rfl | rfl | rfl | rfl | rfl | rfl | rfl | rfl
                  all_goals first | exact Hold.alloc hF _ _ | exact hF | exact (hk rfl).elim | exact ((hc _ List.mem_cons_self).1 rfl).elim | exact ((hc _ List.mem_cons_self).2 (by obtain rfl := Option.some.inj hok; decide)).elim | exact (hp (by obtain rfl := Option.some.inj hok; decide)).elim
              · intro y tag w2 b hb hI hp K hK
                go_simp
                refine hK (.pointer (some ⟨qb, 3, none⟩)) tag _ w2 rfl hI rfl ?_
                · intro k ok hok hk hp hc hF
                  rcases lt29 (Array.getElem?_eq_some_iff.1 hok).1 with rfl | rfl | rfl | rfl | rfl | rfl | rfl | rfl | rfl | rfl | rfl | rfl | rfl | rfl | rfl | rfl | rfl | rfl | rfl | rfl | rfl | rfl | rfl | rfl | rfl | rfl | rfl | rfl | rfl
                  all_goals first | exact hF | exact (hk rfl).elim | exact ((hc _ List.mem_cons_self).1 rfl).elim | exact ((hc _ List.mem_cons_self).2 (by obtain rfl := Option.some.inj hok; decide)).elim | exact (hp (by obtain rfl := Option.some.inj hok; decide)).elim
              · intro y tag w2 b hb hI hp K hK
                have h15 : y 15 = .pointer (some ⟨qb, 3, none⟩) := hp 15 (by decide) (fun c hc => by cases hc)
                go_simp
                refine hK (.pointer (some ⟨qb, 5, none⟩)) tag _ w2 (by simp [updV, h15]) hI rfl ?_
                · intro k ok hok hk hp hc hF
                  rcases lt29 (Array.getElem?_eq_some_iff.1 hok).1 with rfl | rfl | rfl | rfl | rfl | rfl | rfl | rfl | rfl | rfl | rfl | rfl | rfl | rfl | rfl | rfl | rfl | rfl | rfl | rfl | rfl | rfl | rfl | rfl | rfl | rfl | rfl | rfl | rfl
                  all_goals first | exact hF | exact (hk rfl).elim | exact ((hc _ List.mem_cons_self).1 rfl).elim | exact ((hc _ List.mem_cons_self).2 (by obtain rfl := Option.some.inj hok; decide)).elim | exact (hp (by obtain rfl := Option.some.inj hok; decide)).elim
              · intro y tag w2 b hb hI hp K hK
                have h16 : y 16 = .pointer (some ⟨qb, 5, none⟩) := hp 16 (by decide) (fun c hc => by cases hc)
                have c0 : w2.cell? ⟨qb, 5, none⟩ = some (.slice sa r.ss.length sc) := cell_blk_some ((hI.1.block qb (blk_lt HQ0.out) HQN.out).trans HQ0.out) rfl
                go_simp
                refine hK (.slice sa r.ss.length sc) tag _ w2 (by simp [updV, h16]) hI rfl ?_
                · intro k ok hok hk hp hc hF
                  rcases lt29 (Array.getElem?_eq_some_iff.1 hok).1 with rfl | rfl | rfl | rfl | rfl | rfl | rfl | rfl | rfl | rfl | rfl | rfl | rfl | rfl | rfl | rfl | rfl | rfl | rfl | rfl | rfl | rfl | rfl | rfl | rfl | rfl | rfl | rfl | rfl
                  all_goals first | exact hF | exact (hk rfl).elim | exact ((hc _ List.mem_cons_self).1 rfl).elim | exact ((hc _ List.mem_cons_self).2 (by obtain rfl := Option.some.inj hok; decide)).elim | exact (hp (by obtain rfl := Option.some.inj hok; decide)).elim
              · intro y tag w2 b hb hI hp K hK
                have h14 : Hold tag 3 w2 wz (y 14) [] := hp 14 (by decide) (fun c hc => by simpa [C11] using hc)
                have h17 : y 17 = .slice sa r.ss.length sc := hp 17 (by decide) (fun c hc => by cases hc)
                have hz : wz ≤ w2.heap.size := by have := hI.1.size; rw [HZ0.out] at this; exact this
                refine step_append_rows rfl (.tmp 67) (.tmp 70) rfl rfl h14.own h17 (HSR.out.fr' hI.1 HSN.out) (by simp; try omega) hz ?_
                intro v w3 ho hf hv
                refine hK v (updT tag w2.heap.size 3) _ w3 rfl (growI hI hf HT0.out HZ0.out (fun g hg => (h14.own.lt g hg).1)) (h14.grow ho hv) ?_
                · intro k ok hok hk hp hc hF
                  rcases lt29 (Array.getElem?_eq_some_iff.1 hok).1 with rfl | rfl | rfl | rfl | rfl | rfl | rfl | rfl | rfl | rfl | rfl | rfl | rfl | rfl | rfl | rfl | rfl | rfl | rfl | rfl | rfl | rfl | rfl | rfl | rfl | rfl | rfl | rfl | rfl
                  all_goals first | exact Hold.other hF h14 hf (by decide) | exact hF | exact (hk rfl).elim | exact ((hc _ List.mem_cons_self).1 rfl).elim | exact ((hc _ List.mem_cons_self).2 (by obtain rfl := Option.some.inj hok; decide)).elim | exact (hp (by obtain rfl := Option.some.inj hok; decide)).elim
              · intro y tag w2 b hb hI hp K hK
                go_simp
                refine hK (.int .i64 n) tag _ w2 rfl hI rfl ?_
                · intro k ok hok hk hp hc hF
                  rcases lt29 (Array.getElem?_eq_some_iff.1 hok).1 with rfl | rfl | rfl | rfl | rfl | rfl | rfl | rfl | rfl | rfl | rfl | rfl | rfl | rfl | rfl | rfl | rfl | rfl | rfl | rfl | rfl | rfl | rfl | rfl | rfl | rfl | rfl | rfl | rfl
                  all_goals first | exact hF | exact (hk rfl).elim | exact ((hc _ List.mem_cons_self).1 rfl).elim | exact ((hc _ List.mem_cons_self).2 (by obtain rfl := Option.some.inj hok; decide)).elim | exact (hp (by obtain rfl := Option.some.inj hok; decide)).elim
              · intro y tag w2 b hb hI hp K hK
                go_simp
                refine hK (.pointer (some ⟨qb, 2, none⟩)) tag _ w2 rfl hI rfl ?_
                · intro k ok hok hk hp hc hF
                  rcases lt29 (Array.getElem?_eq_some_iff.1 hok).1 with rfl | rfl | rfl | rfl | rfl | rfl | rfl | rfl | rfl | rfl | rfl | rfl | rfl | rfl | rfl | rfl | rfl | rfl | rfl | rfl | rfl | rfl | rfl | rfl | rfl | rfl | rfl | rfl | rfl
                  all_goals first | exact hF | exact (hk rfl).elim | exact ((hc _ List.mem_cons_self).1 rfl).elim | exact ((hc _ List.mem_cons_self).2 (by obtain rfl := Option.some.inj hok; decide)).elim | exact (hp (by obtain rfl := Option.some.inj hok; decide)).elim
              · intro y tag w2 b hb hI hp K hK
                have h20 : y 20 = .pointer (some ⟨qb, 2, none⟩) := hp 20 (by decide) (fun c hc => by cases hc)
                have c0 : w2.cell? ⟨qb, 2, none⟩ = some (.int .i64 r.first) := cell_blk_some ((hI.1.block qb (blk_lt HQ0.out) HQN.out).trans HQ0.out) rfl
                go_simp
                refine hK (.int .i64 r.first) tag _ w2 (by simp [updV, h20]) hI rfl ?_
                · intro k ok hok hk hp hc hF
                  rcases lt29 (Array.getElem?_eq_some_iff.1 hok).1 with rfl | rfl | rfl | rfl | rfl | rfl | rfl | rfl | rfl | rfl | rfl | rfl | rfl | rfl | rfl | rfl | rfl | rfl | rfl | rfl | rfl | rfl | rfl | rfl | rfl | rfl | rfl | rfl | rfl
                  all_goals first | exact hF | exact (hk rfl).elim | exact ((hc _ List.mem_cons_self).1 rfl).elim | exact ((hc _ List.mem_cons_self).2 (by obtain rfl := Option.some.inj hok; decide)).elim | exact (hp (by obtain rfl := Option.some.inj hok; decide)).elim
              · intro y tag w2 b hb hI hp K hK
                have h19 : y 19 = .int .i64 n := hp 19 (by decide) (fun c hc => by cases hc)
                have h21 : y 21 = .int .i64 r.first := hp 21 (by decide) (fun c hc => by cases hc)
                go_simp
                refine hK (.int .i64 (n - r.first)) tag _ w2 (by simp [updV, h19, h21]) hI rfl ?_
                · intro k ok hok hk hp hc hF
                  rcases lt29 (Array.getElem?_eq_some_iff.1 hok).1 with rfl | rfl | rfl | rfl | rfl | rfl | rfl | rfl | rfl | rfl | rfl | rfl | rfl | rfl | rfl | rfl | rfl | rfl | rfl | rfl | rfl | rfl | rfl | rfl | rfl | rfl | rfl | rfl | rfl
                  all_goals first | exact hF | exact (hk rfl).elim | exact ((hc _ List.mem_cons_self).1 rfl).elim | exact ((hc _ List.mem_cons_self).2 (by obtain rfl := Option.some.inj hok; decide)).elim | exact (hp (by obtain rfl := Option.some.inj hok; decide)).elim
              · intro y tag w2 b hb hI hp K hK
                have h22 : y 22 = .int .i64 (n - r.first) := hp 22 (by decide) (fun c hc => by cases hc)
                have hz : wz ≤ w2.heap.size := by have := hI.1.size; rw [HZ0.out] at this; exact this
                go_simp
                refine hK (.slice (some ⟨w2.heap.size, 0, none⟩) 1 1) (updT tag w2.heap.size 4) _ (w2.alloc (.cells #[.int .i64 (n - r.first)] 3)) (by simp [updV, h22]) (allocI hI HT0.out _) (Hold.new tag 4 w2 _ #[.int .i64 (n - r.first)] [n - r.first] rfl hz) ?_
                · intro k ok hok hk hp hc hF
                  rcases lt29 (Array.getElem?_eq_some_iff.1 hok).1 with rfl | rfl | rfl | rfl | rfl | rfl | rfl | rfl | rfl | rfl | rfl | rfl | rfl | rfl | rfl | rfl | rfl | rfl | rfl | rfl | rfl | rfl | rfl | rfl | rfl | rfl | rfl | rfl | rfl
                  all_goals first | exact Hold.alloc hF _ _ | exact hF | exact (hk rfl).elim | exact ((hc _ List.mem_cons_self).1 rfl).elim | exact ((hc _ List.mem_cons_self).2 (by obtain rfl := Option.some.inj hok; decide)).elim | exact (hp (by obtain rfl := Option.some.inj hok; decide)).elim
              · intro y tag w2 b hb hI hp K hK
                have h18 : Hold tag 3 w2 wz (y 18) r.ss := hp 18 (by decide) (fun c hc => by simpa [C11] using hc)
                have h23 : Hold tag 4 w2 wz (y 23) [n - r.first] := hp 23 (by decide) (fun c hc => by simpa [C11] using hc)
                have hz : wz ≤ w2.heap.size := by have := hI.1.size; rw [HZ0.out] at this; exact this
                refine step_append_rows rfl (.tmp 71) (.tmp 76) rfl rfl h18.own rfl h23.own.row (by simp; try omega) hz ?_
                intro v w3 ho hf hv
                refine hK v (updT tag w2.heap.size 3) _ w3 rfl (growI hI hf HT0.out HZ0.out (fun g hg => (h18.own.lt g hg).1)) (h18.grow ho hv) ?_
                · intro k ok hok hk hp hc hF
                  rcases lt29 (Array.getElem?_eq_some_iff.1 hok).1 with rfl | rfl | rfl | rfl | rfl | rfl | rfl | rfl | rfl | rfl | rfl | rfl | rfl | rfl | rfl | rfl | rfl | rfl | rfl | rfl | rfl | rfl | rfl | rfl | rfl | rfl | rfl | rfl | rfl
                  all_goals first | exact Hold.other hF h18 hf (by decide) | exact hF | exact (hk rfl).elim | exact ((hc _ List.mem_cons_self).1 rfl).elim | exact ((hc _ List.mem_cons_self).2 (by obtain rfl := Option.some.inj hok; decide)).elim | exact (hp (by obtain rfl := Option.some.inj hok; decide)).elim
              · intro y tag w2 b hb hI hp K hK
                have h4 : y 4 = .int .i64 r.root := hp 4 (by decide) (fun c hc => by cases hc)
                have h13 : Hold tag 1 w2 wz (y 13) (r.ms ++ [r.n]) := hp 13 (by decide) (fun c hc => by cases hc)
                have h24 : Hold tag 3 w2 wz (y 24) (r.ss ++ [n - r.first]) := hp 24 (by decide) (fun c hc => by cases hc)
                obtain ⟨a13, c13, e13⟩ : ∃ a c, y 13 = .slice a (r.ms ++ [r.n]).length c := h13.own.shape
                obtain ⟨a24, c24, e24⟩ : ∃ a c, y 24 = .slice a (r.ss ++ [n - r.first]).length c := h24.own.shape
                rw [List.length_append, List.length_singleton] at e13 e24
                go_simp
                refine hK (.agg #[.int .i64 r.root, .slice a13 (r.ms.length + 1) c13, .slice a24 (r.ss.length + 1) c24]) tag _ w2 (by simp [updV, h4, e13, e24]) hI ⟨a13, c13, a24, c24, e13, e24, rfl⟩ ?_
                · intro k ok hok hk hp hc hF
                  rcases lt29 (Array.getElem?_eq_some_iff.1 hok).1 with rfl | rfl | rfl | rfl | rfl | rfl | rfl | rfl | rfl | rfl | rfl | rfl | rfl | rfl | rfl | rfl | rfl | rfl | rfl | rfl | rfl | rfl | rfl | rfl | rfl | rfl | rfl | rfl | rfl
                  all_goals first | exact hF | exact (hk rfl).elim | exact ((hc _ List.mem_cons_self).1 rfl).elim | exact ((hc _ List.mem_cons_self).2 (by obtain rfl := Option.some.inj hok; decide)).elim | exact (hp (by obtain rfl := Option.some.inj hok; decide)).elim
              · intro y tag w2 b hb hI hp K hK
                have h0 : y 0 = .int .i64 n := hp 0 (by decide) (fun c hc => by cases hc)
                have h1 : y 1 = .int .i64 n := hp 1 (by decide) (fun c hc => by cases hc)
                obtain ⟨a13, c13, a24, c24, e13, e24, h25⟩ : ∃ a13 c13 a24 c24, y 13 = .slice a13 (r.ms.length + 1) c13 ∧ y 24 = .slice a24 (r.ss.length + 1) c24 ∧ y 25 = .agg #[.int .i64 r.root, .slice a13 (r.ms.length + 1) c13, .slice a24 (r.ss.length + 1) c24] := hp 25 (by decide) (fun c hc => by cases hc)
                go_simp
                refine hK (.agg #[.int .i64 n, .int .i64 0, .int .i64 n, .int .i64 r.root, .slice a13 (r.ms.length + 1) c13, .slice a24 (r.ss.length + 1) c24]) tag _ w2 (by simp [updV, h0, h1, h25, e13, e24]) hI ⟨_, _, h25, rfl⟩ ?_
                · intro k ok hok hk hp hc hF
                  rcases lt29 (Array.getElem?_eq_some_iff.1 hok).1 with rfl | rfl | rfl | rfl | rfl | rfl | rfl | rfl | rfl | rfl | rfl | rfl | rfl | rfl | rfl | rfl | rfl | rfl | rfl | rfl | rfl | rfl | rfl | rfl | rfl | rfl | rfl | rfl | rfl
                  all_goals first | exact hF | exact (hk rfl).elim | exact ((hc _ List.mem_cons_self).1 rfl).elim | exact ((hc _ List.mem_cons_self).2 (by obtain rfl := Option.some.inj hok; decide)).elim | exact (hp (by obtain rfl := Option.some.inj hok; decide)).elim
              · intro y tag w2 b hb hI hp K hK
                obtain ⟨a13, c13, a24, c24, e13, e24, h25⟩ : ∃ a13 c13 a24 c24, y 13 = .slice a13 (r.ms.length + 1) c13 ∧ y 24 = .slice a24 (r.ss.length + 1) c24 ∧ y 25 = .agg #[.int .i64 r.root, .slice a13 (r.ms.length + 1) c13, .slice a24 (r.ss.length + 1) c24] := hp 25 (by decide) (fun c hc => by cases hc)
                have h26 : y 26 = .agg #[.int .i64 n, .int .i64 0, .int .i64 n, .int .i64 r.root, .slice a13 (r.ms.length + 1) c13, .slice a24 (r.ss.length + 1) c24] := by
                  obtain ⟨vM, vS, e25, e26⟩ : ∃ vM vS, y 25 = .agg #[.int .i64 r.root, vM, vS] ∧ y 26 = .agg #[.int .i64 n, .int .i64 0, .int .i64 n, .int .i64 r.root, vM, vS] := hp 26 (by decide) (fun c hc => by cases hc)
                  rw [h25] at e25
                  simp only [Value.agg.injEq, Array.mk.injEq, List.cons.injEq, true_and, and_true] at e25
                  rw [e26, e25.1, e25.2]
                have bx := (hI.2 hb).trans HT0.out
                have c0 := cell_blk_some bx (i := 0) rfl
                have c1 := cell_blk_some bx (i := 1) rfl
                have c2 := cell_blk_some bx (i := 2) rfl
                have c3 := cell_blk_some bx (i := 3) rfl
                have c4 := cell_blk_some bx (i := 4) rfl
                have c5 := cell_blk_some bx (i := 5) rfl
                have f0 := free_blk bx (i := 0)
                have f1 := free_blk bx (i := 1)
                have f2 := free_blk bx (i := 2)
                have f3 := free_blk bx (i := 3)
                have f4 := free_blk bx (i := 4)
                have f5 := free_blk bx (i := 5)
                go_simp
                rw [← h26, ← h25, ← e13, ← e24]
                obtain ⟨w6, hw6⟩ : ∃ w6, w6 = ((((((w2.setCell ⟨w.heap.size, 0, none⟩ (.int .i64 n)).setCell ⟨w.heap.size, 1, none⟩ (.int .i64 0)).setCell ⟨w.heap.size, 2, none⟩ (.int .i64 n)).setCell ⟨w.heap.size, 3, none⟩ (.int .i64 r.root)).setCell ⟨w.heap.size, 4, none⟩ (y 13)).setCell ⟨w.heap.size, 5, none⟩ (y 24)) := ⟨_, rfl⟩
                have hB : w6.heap[w.heap.size]? = some (.cells #[.int .i64 n, .int .i64 0, .int .i64 n, .int .i64 r.root, y 13, y 24] 34 (0, 0)) := by rw [hw6]; exact blk_set (i := 5) (blk_set (i := 4) (blk_set (i := 3) (blk_set (i := 2) (blk_set (i := 1) (blk_set (i := 0) bx (.int .i64 n)) (.int .i64 0)) (.int .i64 n)) (.int .i64 r.root)) (y 13)) (y 24)
                have hW6 : Fr (fun g => g = w.heap.size) w2 w6 := by rw [hw6]; exact ((((((Fr.refl (fun g => g = w.heap.size) w2).setCell ⟨w.heap.size, 0, none⟩ rfl (.int .i64 n)).setCell ⟨w.heap.size, 1, none⟩ rfl (.int .i64 0)).setCell ⟨w.heap.size, 2, none⟩ rfl (.int .i64 n)).setCell ⟨w.heap.size, 3, none⟩ rfl (.int .i64 r.root)).setCell ⟨w.heap.size, 4, none⟩ rfl (y 13)).setCell ⟨w.heap.size, 5, none⟩ rfl (y 24)
                rw [← hw6]
                clear hw6 c0 c1 c2 c3 c4 c5 f0 f1 f2 f3 f4 f5 bx
                refine hK undef tag _ w6 rfl ⟨hI.1.trans hW6, fun h => by simp [updB] at h⟩ hB ?_
                · intro k ok hok hk hp hc hF
                  rcases lt29 (Array.getElem?_eq_some_iff.1 hok).1 with rfl | rfl | rfl | rfl | rfl | rfl | rfl | rfl | rfl | rfl | rfl | rfl | rfl | rfl | rfl | rfl | rfl | rfl | rfl | rfl | rfl | rfl | rfl | rfl | rfl | rfl | rfl | rfl | rfl
                  all_goals first | exact Hold.low hF hW6 HTZ.out | exact hF | exact (hk rfl).elim | exact ((hc _ List.mem_cons_self).1 rfl).elim | exact ((hc _ List.mem_cons_self).2 (by obtain rfl := Option.some.inj hok; decide)).elim | exact (hp (by obtain rfl := Option.some.inj hok; decide)).elim
              · intro y tag w2 b hb hI hp K hK
                go_simp
                refine hK (.bool true) tag _ w2 rfl hI rfl ?_
                · intro k ok hok hk hp hc hF
                  rcases lt29 (Array.getElem?_eq_some_iff.1 hok).1 with rfl | rfl | rfl | rfl | rfl | rfl | rfl | rfl | rfl | rfl | rfl | rfl | rfl | rfl | rfl | rfl | rfl | rfl | rfl | rfl | rfl | rfl | rfl | rfl | rfl | rfl | rfl | rfl | rfl
                  all_goals first | exact hF | exact (hk rfl).elim | exact ((hc _ List.mem_cons_self).1 rfl).elim | exact ((hc _ List.mem_cons_self).2 (by obtain rfl := Option.some.inj hok; decide)).elim | exact (hp (by obtain rfl := Option.some.inj hok; decide)).elim
              -- END STEPS
              intro y tag w2 b hb hI hF
              have h13 : Hold tag 1 w2 wz (y 13) (r.ms ++ [r.n]) := hF 13 (by decide) rfl
              have h24 : Hold tag 3 w2 wz (y 24) (r.ss ++ [n - r.first]) := hF 24 (by decide) rfl
              have h27 : w2.heap[w.heap.size]? = _ := hF 27 (by decide) rfl
              have h28 : y 28 = .bool true := hF 28 (by decide) rfl
              have RES : Hid (RFind n w (.returned (.tuple #[.agg #[.int .i64 n, .int .i64 0, .int .i64 n, .int .i64 r.root, y 13, y 24], .bool true])) w2) := Lib.hid ⟨⟨n, 0, n, r.root, y 13, y 24⟩, by rw [HRES.out]; rfl, by
                rw [HRES.out]
                exact ⟨rfl, rfl, rfl, rfl, h13.own.row.mono (Nat.le_of_lt HTZ.out), h24.own.row.mono (Nat.le_of_lt HTZ.out)⟩, HBEL.out.trans (hI.1.toBelow (B := w.heap.size) HBEL.out.size fun x hx => by rw [show x = w.heap.size from hx]; exact Nat.le_refl _)⟩
              have H27 := Lib.hid h27
              dsimp only
              rw [h28]
              clear h13 h24 h27 h28 hF hI hb HRES HBEL HT0 HQ0 HMR HSR HMN HSN HQN
              go_wp2_with fail
              refine bodyPost_ret (results_row_tmp rfl _ _ w.heap.size _ _ _ _ rfl H27.out Tryd.underlying34 rfl (by kernel_rfl)) rfl ?_
              exact RES.out
            · have hmiss : hitR n r = none := by unfold hitR; rw [if_neg hn, if_neg hp]
              have HS5 : Hid (FindSt n w (.slice (some ⟨g, 0, none⟩) 42 c1) (j + 1) w4) := Lib.hid ⟨S4.out.ms, S4.out.box, S4.out.bel, fun x hx => by
                rw [take_at HRJ.out, List.mem_append, List.mem_singleton] at hx
                rcases hx with hx | rfl
                · exact S4.out.no x hx
                · exact hmiss⟩
              have hcs : r.lvl ≠ 1 ∨ (r.lvl = 1 ∧ n < r.first) ∨ (r.lvl = 1 ∧ r.first ≤ n ∧ r.first + 16 ≤ n) ∨ (r.lvl = 1 ∧ r.first ≤ n ∧ n < r.first + 16 ∧ 600 ≤ n) := by omega
              clear hmiss hp hn S4 BX OB HMS HSS p0 p1 p2 p3 p4 p5 z0 z1 z2 z3 z4 z5
              rcases hcs with g1 | ⟨g1, g2⟩ | ⟨g1, g2, g3⟩ | ⟨g1, g2, g3, g4⟩
              focus
                have e1 : (r.lvl == 1) = false := beq_eq_false_iff_ne.2 g1
                go_wp2_with fail
              rotate_left
              focus
                have e1 : (r.lvl == 1) = true := beq_iff_eq.2 g1
                have e2 : decide (r.first ≤ n) = false := by simpa using g2
                go_wp2_with fail
              rotate_left
              focus
                have e1 : (r.lvl == 1) = true := beq_iff_eq.2 g1
                have e2 : decide (r.first ≤ n) = true := by simpa using g2
                have e3 : decide (n < r.first + 16) = false := by simpa using g3
                go_wp2_with fail
              rotate_left
              focus
                have e1 : (r.lvl == 1) = true := beq_iff_eq.2 g1
                have e2 : decide (r.first ≤ n) = true := by simpa using g2
                have e3 : decide (n < r.first + 16) = true := by simpa using g3
                have e4 : decide (n < 600) = false := by simpa using g4
                go_wp2_with fail
              all_goals
                go_roundw
                case rel => exact ⟨j + 1, by omega, by go_num, HS5.out⟩
                case measure => simp only [RowKit.intOf]; omega
        · obtain rfl : j = 42 := by omega
          have hS := HS.out
          have hnone : rfindN n = none := by
            rw [HR.out, List.findSome?_eq_none_iff]
            have := hS.no
            rw [← allN_len, List.take_length] at this
            exact this
          have BX := Lib.hid hS.box
          have p0 := cell_blk_some BX.out (i := 0) rfl
          have p1 := cell_blk_some BX.out (i := 1) rfl
          have p2 := cell_blk_some BX.out (i := 2) rfl
          have p3 := cell_blk_some BX.out (i := 3) rfl
          have p4 := cell_blk_some BX.out (i := 4) rfl
          have p5 := cell_blk_some BX.out (i := 5) rfl
          have z0 := free_blk BX.out (i := 0)
          have z1 := free_blk BX.out (i := 1)
          have z2 := free_blk BX.out (i := 2)
          have z3 := free_blk BX.out (i := 3)
          have z4 := free_blk BX.out (i := 4)
          have z5 := free_blk BX.out (i := 5)
          have HNO := Lib.hid hnone; have HBEL := Lib.hid hS.bel
          clear hS HS hnone HR
          go_wp2_with fail
          have b6 := blk_set (i := 5) (blk_set (i := 4) (blk_set (i := 3) (blk_set (i := 2) (blk_set (i := 1) (blk_set (i := 0) BX.out (.int .i64 0)) (.int .i64 0)) (.int .i64 0)) (.int .i64 0)) (.slice none 0 0)) (.slice none 0 0)
          refine bodyPost_ret (results_row_tmp rfl _ _ w.heap.size _ _ _ _ rfl b6 Tryd.underlying34 rfl (by kernel_rfl)) rfl ?_
          refine ⟨⟨0, 0, 0, 0, .slice none 0 0, .slice none 0 0⟩, by rw [HNO.out]; rfl, by rw [HNO.out]; exact ⟨rfl, rfl, rfl, rfl, HN.out _, HN.out _⟩, ?_⟩
          exact HBEL.out.trans ((((((((Fr.refl (fun g => g = w.heap.size) wr).setCell ⟨w.heap.size, 0, none⟩ rfl _).setCell ⟨w.heap.size, 1, none⟩ rfl _).setCell ⟨w.heap.size, 2, none⟩ rfl _).setCell ⟨w.heap.size, 3, none⟩ rfl _).setCell ⟨w.heap.size, 4, none⟩ rfl _).setCell ⟨w.heap.size, 5, none⟩ rfl _).toBelow (B := w.heap.size) HBEL.out.size fun x hx => by rw [show x = w.heap.size from hx]; exact Nat.le_refl _)
end Go.Proofs.YtklamgijikcnaaaDoor

namespace Go.Proofs.YtklamgijikcnaaaDoor
open Go.RowKit

theorem rfind_path : ∀ i : Nat, i < 600 → (rfindN (i : Int)).map (·.ms) = some ((pathN (i : Int)).map (·.1)) := by decide +kernel
/-- k leads to data ahead of the cut. -/
def NeedBy (d : Int → Int) (cut : Int) (k : Int) : Prop := ∃ x : Nat, x < 600 ∧ (x : Int) < cut ∧ d x ≠ 0 ∧ k ∈ (pathN (x : Int)).map (·.1)
theorem needBy_set {d : Int → Int} {cut : Int} {n : Nat} {a : Int} (hn : n < 600) (ha : a ≠ 0) (k : Int) : NeedBy (setD d (n : Int) a) cut k ↔ NeedBy d cut k ∨ ((n : Int) < cut ∧ k ∈ (pathN (n : Int)).map (·.1)) := by
  constructor
  · rintro ⟨x, h1, h2, h3, h4⟩
    by_cases e : (x : Int) = n
    · have : x = n := by omega
      subst this
      exact .inr ⟨h2, h4⟩
    · rw [setD_other e] at h3
      exact .inl ⟨x, h1, h2, h3, h4⟩
  · rintro (⟨x, h1, h2, h3, h4⟩ | ⟨h1, h2⟩)
    · refine ⟨x, h1, h2, ?_, h4⟩
      by_cases e : (x : Int) = n
      · rw [e, setD_self]; exact ha
      · rw [setD_other e]; exact h3
    · exact ⟨n, hn, h1, by rw [setD_self]; exact ha, h2⟩
structure NIn (W : World) (fb nb : Nat) (d : Int → Int) (m : MM) (F : Nat → Prop) (P : Int → Prop) (c : Nat) (wr : World) : Prop where
  one : One W wr fb d m F
  mp : ∃ f, MapIs (Value.int .i64) wr nb (dataF f) ∧ (∀ k, f k ≠ 0 ↔ P k) ∧ ∀ k, 0 ≤ f k ∧ f k ≤ c
  off : ¬ F nb
  low : W.heap.size ≤ nb
theorem NIn.below {W wr w' : World} {fb nb c : Nat} {d : Int → Int} {m : MM} {F : Nat → Prop} {P : Int → Prop} (h : NIn W fb nb d m F P c wr) (hb : Below wr.heap.size wr w') : NIn W fb nb d m F P c w' := by
  obtain ⟨f, h1, h2⟩ := h.mp
  exact ⟨h.one.below hb, ⟨f, h1.fr (S := fun _ => False) (Fr.below hb) id, h2⟩, h.off, h.low⟩
theorem NIn.congr {W wr : World} {fb nb c c' : Nat} {d : Int → Int} {m : MM} {F : Nat → Prop} {P P' : Int → Prop} (h : NIn W fb nb d m F P c wr) (hp : ∀ k, P k ↔ P' k) (hc : c ≤ c') : NIn W fb nb d m F P' c' wr := by
  obtain ⟨f, h1, h2, h3⟩ := h.mp
  exact ⟨h.one, ⟨f, h1, fun k => (h2 k).trans (hp k), fun k => ⟨(h3 k).1, by have := (h3 k).2; omega⟩⟩, h.off, h.low⟩
def NSt (W : World) (fb nb : Nat) (cut : Int) (i : Nat) (wr : World) : Prop := (∃ d m F, NIn W fb nb d m F (NeedBy d cut) (3 * i) wr) ∧ i ≤ 40
theorem NIn.look {W wr : World} {fb nb c : Nat} {d : Int → Int} {m : MM} {F : Nat → Prop} {P : Int → Prop} (h : NIn W fb nb d m F P c wr) (k : Int) :
    ∃ z : Int, 0 ≤ z ∧ z ≤ c ∧ (z ≠ 0 ↔ P k) ∧ (Instr.lookup 27 (.map (some nb)) (.int .i64 k) false).run Tryd.prog wr = .ok (.int .i64 z) wr ∧
      ∃ w2, (Instr.mapUpdate 27 (.map (some nb)) (.int .i64 k) (.int .i64 (z + 1))).run Tryd.prog wr = .ok () w2 ∧ NIn W fb nb d m F (fun x => P x ∨ x = k) (c + 1) w2 ∧ Fr (fun x => x = nb) wr w2 := by
  obtain ⟨f, h1, h2, h3⟩ := h.mp
  obtain ⟨w2, hup, hM, hf⟩ := h1.put klI Tryd.underlying27 k (.int .i64 (f k + 1))
  have hk := h3 k
  refine ⟨f k, hk.1, hk.2, h2 k, dataF_look h1 k, w2, hup, ⟨h.one.fr hf (fun q hq e => h.off (by rw [← show q = nb from e]; exact hq)) (fun q hq => by rw [show q = nb from hq]; exact h.low), ⟨setD f k (f k + 1), ?_, fun x => ?_, fun x => ?_⟩, h.off, h.low⟩, hf⟩
  · rw [dataF_setD (by omega)]; exact hM
  · by_cases e : x = k
    · subst e; rw [setD_self]
      exact ⟨fun _ => .inr rfl, fun _ => by omega⟩
    · rw [setD_other e, h2 x]
      exact ⟨.inl, fun h => h.resolve_right e⟩
  · by_cases e : x = k
    · subst e; rw [setD_self]; omega
    · rw [setD_other e]; have := h3 x; omega

structure NRow (W : World) (fb nb : Nat) (d : Int → Int) (m : MM) (F : Nat → Prop) (P : Int → Prop) (c : Nat) (v : Value) (L : List Int) (j : Nat) (wr : World) : Prop where
  ni : NIn W fb nb d m F (fun k => P k ∨ k ∈ L.take j) (c + j) wr
  row : RowI wr W.heap.size v L
theorem NRow.off {W wr : World} {fb nb c j : Nat} {d : Int → Int} {m : MM} {F : Nat → Prop} {P : Int → Prop} {v : Value} {L : List Int} (h : NRow W fb nb d m F P c v L j wr) (hl : 0 < L.length) : ∀ g, v.ownBlock = some g → ¬ g = nb := fun g hg e => by
  obtain ⟨f, ⟨es, cl, hm, _⟩, _⟩ := h.ni.mp
  obtain ⟨a, c', rfl, _, hr⟩ := h.row
  obtain ⟨g2, cur, rfl, _, hb, _⟩ := hr hl
  injection hg with hg
  subst hg
  rw [show g2 = nb from e, hm] at hb
  injection hb with hb
  cases hb
set_option maxHeartbeats 8000000 in
set_option maxRecDepth 100000 in
theorem lawNeeds_any (v : Value) (xs : List Int) (cut : Int) (W : World) (S : SpanAt W) (hv : ArgI W v xs) :
    Calls Tryd.prog 3 #[v, .int .i64 cut] W fun e w' => e = .returned (.bool true) ∧ Below W.heap.size W w' := by
  obtain ⟨av, cv, rfl, hxs⟩ := hv
  have HX := Lib.hid hxs
  obtain ⟨ct, hct, hctw⟩ := rest_of cut 601 (by decide) (by decide)
  have HK := Lib.hid hctw
  rw [show ((601 : Nat) : Int) = 601 from rfl] at HK
  have HN := Lib.hid (onew_any S)
  clear hxs hctw S
  have mm := fun w => run_makeMap (P := Tryd.prog) 27 w
  go_enter Tryd.func3, Tryd.ntmps3
  go_wp2_with fail
  refine HN.out.mono ?_
  rintro e w1 ⟨rfl, F1, T1⟩
  have HA := Lib.hid (awake_any T1.f.span)
  have T1' := Lib.hid T1
  clear T1
  go_wp2_with fail
  refine HA.out.mono ?_
  rintro e w2 ⟨rfl, hb2⟩
  have T2 := T1'.out.below hb2
  have hst : NSt W (W.heap.size + 2) w2.heap.size (ct : Int) 0 (w2.alloc (.map #[] 0)) := ⟨⟨_, _, _, T2.alloc _, ⟨fun _ => 0, by rw [dataF_zero]; exact MapIs.new _ _ _ (blk_new rfl), fun k => ⟨fun h => absurd rfl h, fun ⟨_, _, _, h, _⟩ => absurd rfl h⟩, fun k => ⟨Int.le_refl _, by show (0 : Int) ≤ _; omega⟩⟩, fun h => by have := T2.f.lt _ h; omega, T2.bel.size⟩, by omega⟩
  have K0 := Lib.hid hst
  clear hst T2 hb2 HA T1' HN
  go_wp2_with fail
  rw [HK.out]
  generalize w2.alloc (.map #[] 0) = w3 at K0 ⊢
  generalize w2.heap.size = nb at K0 ⊢
  generalize W.heap.size + 2 = fb at K0 ⊢
  go_loopw [7] (fun idx wr => ∃ i : Nat, i ≤ xs.length ∧ idx = .int .i64 i ∧ NSt W fb nb ct i wr) (fun idx _ => xs.length - (RowKit.intOf idx).toNat)
  case atStart => exact ⟨0, by omega, rfl, K0.out⟩
  case round =>
    obtain ⟨i, hi, rfl, hst⟩ := hrel
    clear K0
    obtain ⟨⟨d, m, F, hin⟩, hi40⟩ := hst
    have HIN := Lib.hid hin
    clear hin
    by_cases hgo : i < xs.length ∧ i < 40
    · obtain ⟨hg1, hg2⟩ := hgo
      obtain ⟨g, o, rfl, hg, hcell⟩ := HX.out (by omega)
      have hc := (HIN.out.one.bel.cell (p := ⟨g, o + i, none⟩) hg).trans (hcell i hg1)
      obtain ⟨x, hxe⟩ : ∃ x, x = xs.getD i 0 := ⟨_, rfl⟩
      rw [← hxe] at hc
      obtain ⟨n, hn, hnw⟩ := rest_of x 600 (by decide) (by decide)
      have HNW := Lib.hid hnw
      rw [show ((600 : Nat) : Int) = 600 from rfl] at HNW
      have hsr := Lib.hid (oset_data HIN.out.one (n := n) (a := (i : Int) + 1) ⟨by omega, by omega⟩ ⟨by omega, by omega⟩)
      have b0 : (0 : Int) ≤ (i : Int) := by omega
      have b1 : (i : Int) < (xs.length : Int) := by omega
      clear hcell hnw hxe
      go_wp2_with fail
      rw [HNW.out]
      refine hsr.out.mono ?_
      rintro e w4 ⟨v4, F4, rfl, _, T4, ha4⟩
      have hd4 := (setS_ok HIN.out.one.inv (n := n) (a := (i : Int) + 1) ⟨by omega, by omega⟩).1
      rw [hd4] at T4
      obtain ⟨f, hM, hf1, hf2⟩ := HIN.out.mp
      have H4 : Hid (NIn W fb nb (setD d n ((i : Int) + 1)) (setS d m n ((i : Int) + 1)).2.1 F4 (NeedBy d ct) (3 * i) w4) := Lib.hid ⟨T4, ⟨f, hM.fr ha4.fr HIN.out.off, hf1, hf2⟩, ha4.off hM.lt HIN.out.off, HIN.out.low⟩
      have hnb := needBy_set (d := d) (cut := (ct : Int)) (n := n) (a := (i : Int) + 1) hn (by omega)
      have HNB := Lib.hid hnb
      clear T4 ha4 hd4 hsr hc hM hf1 hf2 HIN hnb
      by_cases hnc : n < ct
      · obtain ⟨r, hr⟩ : ∃ r, rfindN (n : Int) = some r := by
          have := rfind_path n hn
          cases hq : rfindN (n : Int) with
          | none => rw [hq] at this; cases this
          | some r => exact ⟨r, rfl⟩
        have hms : r.ms = (pathN (n : Int)).map (·.1) := by
          have := rfind_path n hn
          rw [hr] at this
          exact Option.some.inj this
        have hml : r.ms.length ≤ 3 := by rw [hms, List.length_map]; exact path_short n hn
        have hF := rfind_any (n : Int) w4
        have HF := Lib.hid hF; have HR := Lib.hid hr; have HMS := Lib.hid hms
        clear hF hr hms
        go_wp2_with fail
        refine HF.out.mono ?_
        rintro e w5 ⟨⟨xn, xl, xf, xr, xm, xs'⟩, rfl, hx, hb5⟩
        rw [HR.out] at hx
        have hms5 : RowI w5 w4.heap.size xm r.ms := hx.ms
        have hss5 : RowI w5 w4.heap.size xs' r.ss := hx.ss
        obtain ⟨ma, mc, rfl⟩ := hms5.shape
        obtain ⟨sa, sc, rfl⟩ := hss5.shape
        have H5 := Lib.hid (H4.out.below hb5)
        dsimp only [MetaV.flat]
        have hx6 := hms5.below ((Below.refl _ w5).alloc (Nat.le_refl _) (.cells #[.int .i64 xn, .int .i64 xl, .int .i64 xf, .int .i64 xr, .slice ma r.ms.length mc, .slice sa r.ss.length sc] 34))
        have ST : Hid (NRow W fb nb (setD d n ((i : Int) + 1)) (setS d m n ((i : Int) + 1)).2.1 F4 (NeedBy d ct) (3 * i) (.slice ma r.ms.length mc) r.ms 0 (w5.alloc (.cells #[.int .i64 xn, .int .i64 xl, .int .i64 xf, .int .i64 xr, .slice ma r.ms.length mc, .slice sa r.ss.length sc] 34))) :=
          Lib.hid ⟨(H5.out.below ((Below.refl _ w5).alloc (Nat.le_refl _) _)).congr (fun k => by rw [List.take_zero]; simp) (by omega), hx6.mono H4.out.one.bel.size⟩
        clear hx hms5 hss5 hx6 H5 hb5 HF H4
        go_wp2_with fail
        generalize w5.alloc (.cells #[.int .i64 xn, .int .i64 xl, .int .i64 xf, .int .i64 xr, .slice ma r.ms.length mc, .slice sa r.ss.length sc] 34) = w6 at ST ⊢
        go_loopw [71] (fun idx wr => ∃ j : Nat, j ≤ r.ms.length ∧ idx = .int .i64 j ∧ NRow W fb nb (setD d n ((i : Int) + 1)) (setS d m n ((i : Int) + 1)).2.1 F4 (NeedBy d ct) (3 * i) (.slice ma r.ms.length mc) r.ms j wr) (fun idx _ => r.ms.length - (RowKit.intOf idx).toNat)
        case atStart => exact ⟨0, by omega, rfl, ST.out⟩
        case round =>
          obtain ⟨j, hj, rfl, hst⟩ := hrel
          clear ST
          have HS := Lib.hid hst
          clear hst
          by_cases hjl : j < r.ms.length
          · obtain ⟨k, hk⟩ : ∃ k, r.ms[j]? = some k := ⟨_, List.getElem?_eq_getElem hjl⟩
            obtain ⟨gg, cc, he, hlc, _, hgl, hcell⟩ := HS.out.row.cells (by omega)
            injection he with h1 h3 h2
            clear h3
            subst h1 h2
            have k0 := hcell j k hk
            obtain ⟨z, hz0, hz1, _, lk, w7, hup, hin7, hf7⟩ := HS.out.ni.look k
            have hz2 : z ≤ 1000 := by omega
            have b2 : (0 : Int) ≤ (j : Int) := by omega
            have b3 : (j : Int) < (r.ms.length : Int) := by omega
            have HS7 : Hid (NRow W fb nb (setD d n ((i : Int) + 1)) (setS d m n ((i : Int) + 1)).2.1 F4 (NeedBy d ct) (3 * i) (.slice (some ⟨gg, 0, none⟩) r.ms.length mc) r.ms (j + 1) w7) := Lib.hid ⟨hin7.congr (fun x => by rw [take_at hk, List.mem_append, List.mem_singleton, or_assoc]) (by omega), HS.out.row.fr' hf7 fun h => HS.out.off h⟩
            clear hcell hk hin7 hf7 hz1
            go_wp2_with fail
            go_roundw
            case rel => exact ⟨j + 1, by omega, by go_num, HS7.out⟩
            case measure => simp only [RowKit.intOf]; omega
          · obtain rfl : j = r.ms.length := by omega
            have FIN : Hid (NSt W fb nb ct (i + 1) wr) := Lib.hid ⟨⟨_, _, F4, HS.out.ni.congr (fun k => by rw [List.take_length, HNB.out k, HMS.out]; exact ⟨fun h => h.imp id fun h => ⟨by omega, h⟩, fun h => h.imp id fun h => h.2⟩) (by omega)⟩, by omega⟩
            clear HS
            go_wp2_with fail
            go_roundw
            case rel => exact ⟨i + 1, by omega, by go_num, FIN.out⟩
            case measure => simp only [RowKit.intOf]; omega
      · have FIN : Hid (NSt W fb nb ct (i + 1) w4) := Lib.hid ⟨⟨_, _, F4, H4.out.congr (fun k => by rw [HNB.out k]; exact ⟨.inl, fun h => h.resolve_right fun h => by omega⟩) (by omega)⟩, by omega⟩
        clear H4
        go_wp2_with fail
        go_roundw
        case rel => exact ⟨i + 1, by omega, by go_num, FIN.out⟩
        case measure => simp only [RowKit.intOf]; omega
    · have hCUT := Lib.hid (ocut_any HIN.out.one (from_ := (ct : Int)) ⟨by omega, by omega⟩)
      have hend : xs.length ≤ i ∨ (i < xs.length ∧ 40 ≤ i) := by omega
      clear hgo
      rcases hend with hend | ⟨hend, hend2⟩
      all_goals
        go_wp2_with fail
        refine hCUT.out.mono ?_
        rintro e w4 ⟨v4, F4, d', m', rfl, hd', _, _, _, T4, ha4⟩
        obtain ⟨f, hM, hf1, hf2⟩ := HIN.out.mp
        have hcov : ∀ k, (m' k).isSome = true ↔ f k ≠ 0 := fun k => by
          rw [cov T4.inv k, hf1 k]
          constructor
          · rintro ⟨x, h1, h2, h3⟩
            rw [hd' x] at h2
            split at h2
            · exact absurd rfl h2
            · exact ⟨x, h1, by omega, h2, h3⟩
          · rintro ⟨x, h1, h2, h3, h4⟩
            exact ⟨x, h1, by rw [hd' x, if_neg (by omega)]; exact h3, h4⟩
        have H4 : Hid (NIn W fb nb d' m' F4 (fun k => (m' k).isSome = true) (3 * i) w4) := Lib.hid ⟨T4, ⟨f, hM.fr ha4.fr HIN.out.off, fun k => (hcov k).symm, hf2⟩, ha4.off hM.lt HIN.out.off, HIN.out.low⟩
        have hMT := Lib.hid (metas_any T4.f)
        clear hd' hM hf1 hf2 hcov T4 ha4 hCUT HIN
        go_wp2_with fail
        refine hMT.out.mono ?_
        rintro e w5 ⟨mv, rfl, hr5, hb5⟩
        have hml : (metasOf m').length ≤ 42 := by
          have h1 : metasN.length = 42 := by decide +kernel
          have h2 : (metasOf m').length ≤ metasN.length := by unfold metasOf; exact List.length_filter_le _ _
          omega
        have hnd : (metasOf m').Nodup := metasN_nodup.sublist List.filter_sublist
        have hmem : ∀ k, k ∈ metasOf m' ↔ (m' k).isSome = true := fun k => by
          unfold metasOf
          rw [List.mem_filter]
          exact ⟨fun h => h.2, fun h => ⟨H4.out.one.inv.metas h, h⟩⟩
        obtain ⟨xp, yp, rfl⟩ := hr5.shape
        have ST : Hid (NRow W fb nb d' m' F4 (fun k => (m' k).isSome = true) (3 * i) (.slice xp (metasOf m').length yp) (metasOf m') 0 w5) := Lib.hid ⟨(H4.out.below hb5).congr (fun k => by rw [List.take_zero]; simp) (by omega), hr5.mono H4.out.one.bel.size⟩
        have HND := Lib.hid hnd; have HMEM := Lib.hid hmem
        clear hr5 hb5 hnd hmem H4 hMT
        generalize metasOf m' = L at *
        go_wp2_with fail
        go_loop [92] (fun idx => ∃ j : Nat, j ≤ L.length ∧ idx = .int .i64 j) (fun idx => L.length - (RowKit.intOf idx).toNat)
        case atStart => exact ⟨0, by omega, rfl⟩
        case round =>
          obtain ⟨j, hj, rfl⟩ := hrel
          by_cases hjl : j < L.length
          · obtain ⟨k, hk⟩ : ∃ k, L[j]? = some k := ⟨_, List.getElem?_eq_getElem hjl⟩
            obtain ⟨gg, cc, he, hlc, _, hgl, hcell⟩ := ST.out.row.cells (by omega)
            injection he with h1 h3 h2
            clear h3
            subst h1 h2
            have k0 := hcell j k hk
            obtain ⟨z, hz0, hz1, hz3, lk, _⟩ := ST.out.ni.look k
            have hz : (z == 0) = false := beq_eq_false_iff_ne.2 (hz3.2 (.inl ((HMEM.out k).1 (List.mem_of_getElem? hk))))
            have b2 : (0 : Int) ≤ (j : Int) := by omega
            have b3 : (j : Int) < (L.length : Int) := by omega
            clear hcell hk hz1 hz3
            go_wp2_with fail
            go_round
            case rel => exact ⟨j + 1, by omega, by go_num⟩
            case measure => simp only [RowKit.intOf]; omega
          · obtain ⟨f, hM, hf1, hf2⟩ := ST.out.ni.mp
            have hlen := hM.len klI Tryd.underlying27 HND.out (fun k => by
              rw [HMEM.out]
              have := hf1 k
              rw [List.take_zero] at this
              unfold dataF
              by_cases h0 : f k = 0
              · rw [if_pos h0]
                exact ⟨fun h => absurd h0 (this.2 (.inl h)), fun h => by cases h⟩
              · rw [if_neg h0]
                exact ⟨fun _ => rfl, fun _ => (this.1 h0).resolve_right (by simp)⟩) 3
            clear hM hf1 hf2
            go_wp2_with fail
            go_ret
            exact ⟨rfl, ST.out.ni.one.bel⟩
end Go.Proofs.YtklamgijikcnaaaDoor
