/- Plain laws of CacheRow: the row of buffers; what stands where. -/
import Derived.Test.YtjldocpjoiibjaaC26
namespace Go.Proofs.Ytjldocpjoiibjaa
open Go.RowKit

/-- The buffers lo .. hi - 1, in their order, clean. -/
structure RowL (L : List Bf) (lo hi : Nat) : Prop where
  len : L.length = hi - lo
  le : lo ≤ hi
  row : ∀ (t : Nat) (b : Bf), L[t]? = some b → b.key = (7, ((lo + t : Nat) : Int)) ∧ b.data = pat [((lo + t : Nat) : Int), 1] ∧ b.dirty = false ∧ b.pins = 0
theorem RowL.nil : RowL [] 0 0 := ⟨rfl, Nat.le_refl _, fun t b h => by simp at h⟩
theorem RowL.push {L : List Bf} {lo hi : Nat} {x : Bf} (h : RowL L lo hi) (hk : x.key = (7, (hi : Int))) (hd : x.data = pat [(hi : Int), 1]) (h1 : x.dirty = false) (h2 : x.pins = 0) : RowL (L ++ [x]) lo (hi + 1) := by
  have hle := h.le
  have hlen := h.len
  refine ⟨by rw [List.length_append, hlen]; simp; omega, by omega, fun t b ht => ?_⟩
  by_cases hlt : t < L.length
  · rw [List.getElem?_append_left hlt] at ht
    exact h.row t b ht
  · have hl2 : t < (L ++ [x]).length := (List.getElem?_eq_some_iff.1 ht).1
    rw [List.length_append, List.length_singleton] at hl2
    rw [List.getElem?_append_right (by omega), show t - L.length = 0 by omega] at ht
    obtain rfl : x = b := by simpa using ht
    have he : lo + t = hi := by omega
    rw [he]
    exact ⟨hk, hd, h1, h2⟩
theorem RowL.tail {a : Bf} {L : List Bf} {lo hi : Nat} (h : RowL (a :: L) lo hi) : RowL L (lo + 1) hi := by
  have hlen := h.len
  rw [List.length_cons] at hlen
  refine ⟨by omega, by omega, fun t b ht => ?_⟩
  have := h.row (t + 1) b (by simpa using ht)
  rw [show lo + 1 + t = lo + (t + 1) by omega]
  exact this
theorem RowL.keys {L : List Bf} {lo hi : Nat} (h : RowL L lo hi) : ∀ b ∈ L, ∃ t, t < hi ∧ lo ≤ t ∧ b.key = (7, (t : Int)) ∧ b.data = pat [(t : Int), 1] ∧ stuckB b = false := fun b hb => by
  obtain ⟨t, ht⟩ := List.mem_iff_getElem?.1 hb
  obtain ⟨h1, h2, h3, h4⟩ := h.row t b ht
  have hl := (List.getElem?_eq_some_iff.1 ht).1
  have hlen := h.len
  have hle := h.le
  refine ⟨lo + t, by omega, by omega, h1, h2, ?_⟩
  unfold stuckB
  rw [h3, h4]; rfl
theorem RowL.fresh {L Q : List Bf} {lo hi : Nat} (h : RowL L lo hi) (hp : Q.Perm L) : ((7 : Int), (hi : Int)) ∉ Q.map Bf.key := fun hx => by
  obtain ⟨b, hb, he⟩ := List.mem_map.1 hx
  obtain ⟨t, h1, _, h2, _⟩ := h.keys b (hp.mem_iff.1 hb)
  rw [h2] at he
  have : (t : Int) = (hi : Int) := (Prod.mk.inj he).2
  omega
def patI (xs : List Int) : List Int := (List.range 64).map fun i => xs.getD (i % xs.length) 0
theorem patI_len (xs : List Int) : (patI xs).length = 64 := by simp [patI]
theorem pat_eq (xs : List Int) : pat xs = (patI xs).map (Value.int .u8) := by unfold pat patI; rw [List.map_map]; rfl
theorem strPat {w : World} {g : Nat} (xs : List Int) (h : ∀ j u, (pat xs)[j]? = some u → w.cell? ⟨g, 0 + j, none⟩ = some u) (c : Nat) :
    (convert 31 9 (.slice (some ⟨g, 0, none⟩) 64 c)).run Try.prog w = .ok (.string (strOfNums (patI xs))) w := by
  have := run_convert_bytes_arg (P := Try.prog) w 31 5 Try.underlying31 Try.underlying5 g 0 (patI xs).length c (patI xs) rfl (fun i hi => by
    refine h i _ ?_
    rw [pat_eq, List.getElem?_map, List.getElem?_eq_getElem hi, List.getD_eq_getElem?_getD, List.getElem?_eq_getElem hi]; rfl) _ Try.underlying9
  rwa [patI_len] at this
end Go.Proofs.Ytjldocpjoiibjaa
