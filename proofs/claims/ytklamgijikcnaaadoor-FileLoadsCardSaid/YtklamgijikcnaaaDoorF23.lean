/- What the laws of chapter 16 share: an argument of numbers; a number's rest; a map's own copy of the data's addresses. -/
import Derived.Test.YtklamgijikcnaaaDoorF22
namespace Go.Proofs.YtklamgijikcnaaaDoor
open Go.RowKit

/-- An argument of the type []int. -/
def ArgI (W : World) (v : Value) (xs : List Int) : Prop :=
  ∃ a c, v = .slice a xs.length c ∧ (0 < xs.length → ∃ g o, a = some ⟨g, o, none⟩ ∧ g < W.heap.size ∧ ∀ i, i < xs.length → W.cell? ⟨g, o + i, none⟩ = some (.int .i64 (xs.getD i 0)))
theorem rest_of (x : Int) (k : Nat) (hk : 0 < k) (hk2 : k ≤ 100000) : ∃ n : Nat, n < k ∧ RowKit.wrap64 ((IntKind.u64.wrap x).tmod (k : Int)) = (n : Int) := by
  have h0 : 0 ≤ IntKind.u64.wrap x := by simp only [IntKind.wrap, IntKind.signed, IntKind.bits]; simp; omega
  have h2 := Int.emod_lt_of_pos (IntKind.u64.wrap x) (show (0 : Int) < (k : Int) by omega)
  have h3 := Int.emod_nonneg (IntKind.u64.wrap x) (show (k : Int) ≠ 0 by omega)
  refine ⟨(IntKind.u64.wrap x % (k : Int)).toNat, by omega, ?_⟩
  rw [Int.tmod_eq_emod_of_nonneg h0]
  unfold RowKit.wrap64; omega
theorem dataF_setD {d : Int → Int} {n a : Int} (ha : a ≠ 0) : dataF (setD d n a) = putK (dataF d) n (.int .i64 a) := by
  funext x
  unfold dataF
  by_cases e : x = n
  · rw [e, setD_self, if_neg ha, putK_self]
  · rw [setD_other e, putK_other e]
theorem dataF_zero : dataF (fun _ => 0) = fun _ => none := by funext k; unfold dataF; rw [if_pos rfl]
theorem dataF_look {w : World} {mb : Nat} {d : Int → Int} (h : MapIs (Value.int .i64) w mb (dataF d)) (n : Int) : (Instr.lookup 27 (.map (some mb)) (.int .i64 n) false).run Tryd.prog w = .ok (.int .i64 (d n)) w := by
  have := h.look1 klI Tryd.underlying27 zero_int n
  rw [this]
  unfold dataF
  by_cases e : d n = 0
  · rw [if_pos e, e]; rfl
  · rw [if_neg e]; rfl
theorem same_adr {d : Int → Int} {m m' : MM} (h : Inv d m) (h' : Inv d m') (hs : Sub m m') : adr d m' = adr d m := by
  funext c
  by_cases hc : 0 ≤ c
  · rw [adr_data hc, adr_data hc]
  · rw [adr_meta (by omega), adr_meta (by omega)]
    unfold adrM
    cases hq : m' c with
    | some v =>
      obtain ⟨u, hu⟩ := hs c v.1 v.2 hq
      rw [hu]; rfl
    | none =>
      cases hm : m c with
      | none => rfl
      | some v =>
        have h1 := (cov h c).1 (by rw [hm]; rfl)
        have h2 := (cov h' c).2 h1
        rw [hq] at h2; cases h2
theorem metasOf_nil {d : Int → Int} {m : MM} (h : Inv d m) (hk : keysD d = []) : metasOf m = [] := by
  have hd : ∀ n, d n = 0 := fun n => by
    by_cases e : d n = 0
    · exact e
    · have := (mem_keysD h).2 e
      rw [hk] at this; cases this
  unfold metasOf
  rw [List.filter_eq_nil_iff]
  intro k _
  rw [h.none_of hd k]; simp
theorem Aft.off {w w' : World} {F F' : Nat → Prop} (h : Aft w w' F F') {x : Nat} (hx : x < w.heap.size) (hn : ¬ F x) : ¬ F' x := fun hf => (h.new x hf).elim hn fun h => by omega
end Go.Proofs.YtklamgijikcnaaaDoor
