/- Walk of marllaw09.play, kind 1: Put. -/
import Derived.Test.YtjldocpjoiibjaaC36
namespace Go.Proofs.Ytjldocpjoiibjaa
open Go.RowKit

/-- A slice of the bytes ys, that lie below B. -/
def BysAt (B : Nat) (w : World) (v : Value) (ys : List Int) : Prop :=
  (ys = [] ∧ ∃ a c, v = .slice a 0 c) ∨ (∃ g o c, v = .slice (some ⟨g, o, none⟩) ys.length c ∧ 0 < ys.length ∧ g < B ∧ ∀ j x, ys[j]? = some x → w.cell? ⟨g, o + j, none⟩ = some (.int .u8 x))
theorem BysAt.shape {B : Nat} {w : World} {v : Value} {l : List Int} (h : BysAt B w v l) : ∃ a c, v = .slice a l.length c := by
  rcases h with ⟨rfl, a, c, rfl⟩ | ⟨g, o, c, rfl, _⟩
  · exact ⟨a, c, rfl⟩
  · exact ⟨_, c, rfl⟩
theorem BysAt.fr {B : Nat} {w w' : World} {v : Value} {l : List Int} {S : Nat → Prop} (h : BysAt B w v l) (hf : Fr S w w') (hS : ∀ x, S x → B ≤ x) (hB : B ≤ w.heap.size) : BysAt B w' v l := by
  rcases h with h | ⟨g, o, c, h1, h2, h3, h4⟩
  · exact .inl h
  · exact .inr ⟨g, o, c, h1, h2, h3, fun j x hx => (World.cell?_of_block (w := w) (a := ⟨g, o + j, none⟩) (hf.block g (by omega) fun hs => by have := hS g hs; omega)).trans (h4 j x hx)⟩
/-- Any slice of bytes, as a source of an append. -/
theorem BysAt.news {B : Nat} {w : World} {a : Option Addr} {n c : Nat} {l : List Int} (h : BysAt B w (.slice a n c) l) :
    (l = [] ∧ a = none) ∨ ∃ ad, a = some ad ∧ ∀ j u, (l.map (Value.int .u8))[j]? = some u → w.cell? (ad.add j) = some u := by
  rcases h with ⟨rfl, a', c', h1⟩ | ⟨g, o, c', h1, h2, h4, h5⟩
  · cases a with
    | none => exact .inl ⟨rfl, rfl⟩
    | some ad => exact .inr ⟨ad, rfl, fun j u hu => by simp at hu⟩
  · injection h1 with e1 e2 e3
    refine .inr ⟨⟨g, o, none⟩, e1, fun j u hu => ?_⟩
    rw [List.getElem?_map] at hu
    cases hx : l[j]? with
    | none => rw [hx] at hu; cases hu
    | some x =>
      rw [hx] at hu
      have hadd : (⟨g, o, none⟩ : Addr).add j = ⟨g, o + j, none⟩ := by unfold Addr.add; split <;> simp_all
      rw [hadd, h5 j x hx]
      exact hu
theorem bys_one (l : List Int) : ∀ u ∈ l.map (Value.int .u8), u.oneCell' = true := by
  intro u hu
  obtain ⟨x, _, rfl⟩ := List.mem_map.1 hu
  rfl
/-- Bytes of any slice of bytes. -/
theorem bytes_of {B : Nat} {w : World} {v : Value} {ys : List Int} (h : BysAt B w v ys) (hB : B ≤ w.heap.size) (hl : ys.length ≤ 1000000) : Calls Try.prog 11 #[v] w (BytesPost w (pat ys)) := by
  rcases h with ⟨rfl, a, c, rfl⟩ | ⟨g, o, c, rfl, h2, h3, h4⟩
  · rw [pat_nil]; exact bytes_nil a c w
  · refine bytes_any h2 hl (fun j hj => ?_) (by omega)
    rw [h4 j _ (List.getElem?_eq_getElem hj), List.getD_eq_getElem?_getD, List.getElem?_eq_getElem hj]; rfl
end Go.Proofs.Ytjldocpjoiibjaa
