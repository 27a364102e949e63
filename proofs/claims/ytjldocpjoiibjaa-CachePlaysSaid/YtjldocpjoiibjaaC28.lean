/- Plain laws of CacheRow: a row of keys in memory; the buffers that are got again. -/
import Derived.Test.YtjldocpjoiibjaaC27
namespace Go.Proofs.Ytjldocpjoiibjaa
open Go.RowKit

/-- A row of keys of the call's own. -/
structure KeysAt (w : World) (g : Nat) (K : List (Int × Int)) : Prop where
  c1 : ∀ (i : Nat) k, K[i]? = some k → w.cell? ⟨g, i * 2, none⟩ = some (.int .i64 k.1)
  c2 : ∀ (i : Nat) k, K[i]? = some k → w.cell? ⟨g, i * 2 + 1, none⟩ = some (.int .i64 k.2)
  lt : g < w.heap.size
theorem KeysAt.below {w w' : World} {g : Nat} {K : List (Int × Int)} (h : KeysAt w g K) (hb : w'.heap[g]? = w.heap[g]?) (hl : w.heap.size ≤ w'.heap.size) : KeysAt w' g K :=
  ⟨fun i k hi => (World.cell?_of_block (w := w) (a := ⟨g, i * 2, none⟩) hb).trans (h.c1 i k hi), fun i k hi => (World.cell?_of_block (w := w) (a := ⟨g, i * 2 + 1, none⟩) hb).trans (h.c2 i k hi), Nat.lt_of_lt_of_le h.lt hl⟩
theorem flatK_at (K : List (Int × Int)) (i : Nat) (k : Int × Int) (h : K[i]? = some k) : (flatK K)[i * 2]? = some (.int .i64 k.1) ∧ (flatK K)[i * 2 + 1]? = some (.int .i64 k.2) := by
  induction K generalizing i with
  | nil => simp at h
  | cons a K ih =>
    cases i with
    | zero =>
      obtain rfl : a = k := by simpa using h
      exact ⟨rfl, rfl⟩
    | succ i =>
      have := ih i (by simpa using h)
      rw [show (i + 1) * 2 = i * 2 + 1 + 1 by omega]
      exact this
theorem keys_own {w : World} {B n : Nat} {v : Value} {K : List (Int × Int)} (h : w.ownsRow B 29 2 v n (flatK K)) (hn : 0 < n) : ∃ g cap, v = .slice (some ⟨g, 0, none⟩) n cap ∧ B ≤ g ∧ KeysAt w g K ∧ K.length = n := by
  have hl : K.length = n := by have := h.1; rw [flatK_length] at this; omega
  rcases h.2 with ⟨_, h0⟩ | ⟨g, cap, cur, rfl, hb, hg, hc, _, hs, ht⟩
  · omega
  · refine ⟨g, cap, rfl, hb, ⟨fun i k hi => ?_, fun i k hi => ?_, blk_lt hg⟩, hl⟩
    · have hik := (List.getElem?_eq_some_iff.1 hi).1
      have h1 := (flatK_at K i k hi).1
      rw [← ht, List.getElem?_take, if_pos (by omega), Array.getElem?_toList] at h1
      exact cell_blk_some hg h1
    · have hik := (List.getElem?_eq_some_iff.1 hi).1
      have h1 := (flatK_at K i k hi).2
      rw [← ht, List.getElem?_take, if_pos (by omega), Array.getElem?_toList] at h1
      exact cell_blk_some hg h1

theorem bytes_own {w : World} {B : Nat} {v : Value} {l : List Value} (h : w.ownsRow B 5 1 v 64 l) : ∃ g c, v = .slice (some ⟨g, 0, none⟩) 64 c ∧ B ≤ g ∧ g < w.heap.size ∧ ∀ j u, l[j]? = some u → w.cell? ⟨g, 0 + j, none⟩ = some u := by
  rcases h.2 with ⟨_, h0⟩ | ⟨g, cap, cur, rfl, hb, hg, hc, _, hs, ht⟩
  · omega
  · refine ⟨g, cap, rfl, hb, blk_lt hg, fun j u hj => ?_⟩
    have hl : l.length = 64 := by have := h.1; omega
    have hjl := (List.getElem?_eq_some_iff.1 hj).1
    rw [Nat.zero_add]
    rw [← ht, List.getElem?_take, if_pos (by omega), Array.getElem?_toList] at hj
    exact cell_blk_some hg hj

theorem bytes_pair (y : Int) (w : World) : Calls Try.prog 11 #[.slice (some ⟨w.heap.size, 0, none⟩) 2 2] (w.alloc (.cells #[.int .u8 y, .int .u8 1] 5))
    (BytesPost (w.alloc (.cells #[.int .u8 y, .int .u8 1] 5)) (pat [y, 1])) := by
  refine bytes_any (xs := [y, 1]) (o := 0) (by simp) (by simp) (fun j hj => ?_) (by simp)
  rw [Nat.zero_add]
  match j, hj with
  | 0, _ => exact cell_blk_some (w := w.alloc _) (blk_new rfl) rfl
  | 1, _ => exact cell_blk_some (w := w.alloc _) (blk_new rfl) rfl
  | j + 2, hj => have : j + 2 < 2 := hj; omega
theorem row_same {w w' : World} {g : Nat} {l : List Value} (h : ∀ j u, l[j]? = some u → w.cell? ⟨g, 0 + j, none⟩ = some u) (hb : w'.heap[g]? = w.heap[g]?) : ∀ j u, l[j]? = some u → w'.cell? ⟨g, 0 + j, none⟩ = some u :=
  fun j u hj => (World.cell?_of_block (w := w) (a := ⟨g, 0 + j, none⟩) hb).trans (h j u hj)

/-- The buffers lo .. lo + n - 1, in whatever order. -/
structure UsedL (L : List Bf) (lo n : Nat) : Prop where
  has : ∀ t, t < n → ∃ b ∈ L, b.key = (7, ((lo + t : Nat) : Int))
  all : ∀ b ∈ L, b.data = pat [b.k2, 1] ∧ 0 ≤ b.k2 ∧ b.k2 < 60
  len : L.length = n
theorem RowL.used {L : List Bf} {lo hi : Nat} (h : RowL L lo hi) (h6 : hi ≤ 60) : UsedL L lo L.length := by
  refine ⟨fun t ht => ⟨L[t], List.getElem_mem ht, (h.row t _ (List.getElem?_eq_getElem ht)).1⟩, fun b hb => ?_, rfl⟩
  obtain ⟨t, h1, h2, h3, h4, _⟩ := h.keys b hb
  have h5 : b.k2 = (t : Int) := (Prod.mk.inj h3).2
  rw [h5]
  exact ⟨h4, by omega, by omega⟩
theorem UsedL.use {A B : List Bf} {b : Bf} {lo n : Nat} (h : UsedL (A ++ b :: B) lo n) (s : Int) : UsedL (A ++ B ++ [b.setStamp s]) lo n := by
  refine ⟨fun t ht => ?_, fun x hx => ?_, by have := h.len; simp at this ⊢; omega⟩
  · obtain ⟨x, hx, hk⟩ := h.has t ht
    rcases List.mem_append.1 hx with hx | hx
    · exact ⟨x, by simp [hx], hk⟩
    · rcases List.mem_cons.1 hx with rfl | hx
      · exact ⟨x.setStamp s, by simp, hk⟩
      · exact ⟨x, by simp [hx], hk⟩
  · rcases List.mem_append.1 hx with hx | hx
    · refine h.all x ?_
      rcases List.mem_append.1 hx with hx | hx
      · simp [hx]
      · simp [hx]
    · rw [List.mem_singleton] at hx
      subst hx
      exact h.all b (by simp)
/-- What was got last. -/
def LastK (L : List Bf) (z : Int) : Prop := z = -1 ∨ (0 ≤ z ∧ ∃ A b, L = A ++ [b] ∧ b.k2 = z)
end Go.Proofs.Ytjldocpjoiibjaa
