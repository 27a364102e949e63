/- Walks of the reference's long, begins. -/
import Derived.Test.YtoofcnehoffllaaGreatR9
import Derived.Test.YtoofcnehoffllaaGreatT28
namespace Go.Proofs.YtoofcnehoffllaaGreat
open Go.RowKit

section
variable {w : World} {B : Nat} {u : Value} {l : List ByteArray}
set_option maxHeartbeats 4000000 in
set_option maxRecDepth 100000 in
theorem refLong_any (hv : StrsAt B w u l) (hl : l.length ≤ 1000) (hs : ∀ x ∈ l, x.size ≤ 1000000) :
    Calls Tryz.prog 53 #[u] w fun e w' => e = .returned (.int .i64 (longN l)) ∧ w' = w := by
  obtain ⟨va, vc, rfl⟩ := hv.shape
  have HV := Lib.hid hv; have HS := Lib.hid hs
  have hl' : ((l.length : Nat) : Int) ≤ 1000 := by omega
  clear hv hs
  go_enter Tryz.func53, Tryz.ntmps53
  go_wp2_with fail
  go_loop [3, 7] (fun n idx => ∃ k : Nat, k ≤ l.length ∧ idx = .int .i64 k ∧ n = .int .i64 (longN (l.take k))) (fun _ idx => l.length - (RowKit.intOf idx).toNat)
  case atStart => exact ⟨0, by omega, rfl, rfl⟩
  case round =>
    obtain ⟨k, hk, rfl, rfl⟩ := hrel
    by_cases hkl : k < l.length
    · obtain ⟨s, hs⟩ : ∃ s, l[k]? = some s := ⟨_, List.getElem?_eq_getElem hkl⟩
      have hsz := HS.out s (List.mem_of_getElem? hs)
      have hbd := longN_bd (l.take k) fun x hx => HS.out x (List.mem_of_mem_take hx)
      rw [List.length_take, Nat.min_eq_left hk] at hbd
      have hsn : longN (l.take (k + 1)) = longN (l.take k) + (1 + s.size) := by rw [take_snoc hs, longN_snoc]
      have HSN := Lib.hid hsn
      rcases HV.out with ⟨h0, _⟩ | ⟨g, o, c, he, hlc, _, _, hcell⟩
      · rw [h0] at hkl; simp at hkl
      · injection he with e1 _ e3
        subst e1 e3
        have k0 := hcell k s hs
        have b0 : (0 : Int) ≤ (k : Int) := by omega
        have b1 : (k : Int) < (l.length : Int) := by omega
        obtain ⟨z0, z1⟩ := hbd
        have z2 : longN (l.take k) ≤ 2000000000 := by omega
        have w1 : IntKind.i64.wrap (longN (l.take k) + 1) = longN (l.take k) + 1 := IntWalk.i64_in _ (by omega)
        have w2 : IntKind.i64.wrap (longN (l.take k) + 1 + (s.size : Int)) = longN (l.take k) + 1 + (s.size : Int) := IntWalk.i64_in _ (by omega)
        clear hcell hs hsn z1 hsz
        go_wp2_with fail
        go_round
        case rel => exact ⟨k + 1, by omega, by go_num, by rw [HSN.out]; congr 1; omega⟩
        case measure => simp only [RowKit.intOf]; omega
    · obtain rfl : k = l.length := by omega
      rw [List.take_length]
      go_wp2_with fail
      go_ret
      exact ⟨rfl, rfl⟩
end
/-- The two blocks of a call that has a tree for its argument and answers one. -/
structure FrT (w wy : World) (tv : Value) : Prop where
  bel : Below w.heap.size w wy
  top : wy.heap[w.heap.size]? = some (.cells #[tv] 30 (0, 0))
  res : wy.heap[w.heap.size + 1]? = some (.cells #[.slice none 0 0] 30 (0, 0))
/-- Blocks that are neither of the two. -/
def D2 (D : Nat → Prop) (w : World) : Nat → Prop := fun b => (D b ∧ b < w.heap.size) ∨ w.heap.size + 2 ≤ b
section
variable {D : Nat → Prop} {w wy w' : World} {tv v u : Value} {cap : Nat} {K : RM} {M : TM}
theorem FrT.start (w : World) (tv : Value) : FrT w ((w.alloc (.cells #[tv] 30 (0, 0))).alloc (.cells #[.slice none 0 0] 30 (0, 0))) tv := by
  obtain ⟨h1, h2, h3, -⟩ := two_new w (.cells #[tv] 30 (0, 0)) (.cells #[.slice none 0 0] 30 (0, 0))
  exact ⟨h1, h2, h3⟩
theorem FrT.below (h : FrT w wy tv) (hb : Below wy.heap.size wy w') : FrT w w' tv :=
  ⟨below_call h.bel hb (Nat.le_refl _), (hb.block _ (blk_lt h.top)).trans h.top, (hb.block _ (blk_lt h.res)).trans h.res⟩
theorem FrT.c0 (h : FrT w wy tv) : wy.cell? ⟨w.heap.size, 0, none⟩ = some tv := cell_blk_some h.top rfl
theorem FrT.f0 (h : FrT w wy tv) : wy.frozen? ⟨w.heap.size, 0, none⟩ = false := free_blk h.top
theorem FrT.c1 (h : FrT w wy tv) : wy.cell? ⟨w.heap.size + 1, 0, none⟩ = some (.slice none 0 0) := cell_blk_some h.res rfl
theorem FrT.f1 (h : FrT w wy tv) : wy.frozen? ⟨w.heap.size + 1, 0, none⟩ = false := free_blk h.res
theorem FrT.size (h : FrT w wy tv) : w.heap.size + 2 ≤ wy.heap.size := by have := blk_lt h.res; omega
theorem RefIs.two (h : RefIs D w v cap K) : RefIs (D2 D w) w v cap K := h.mono fun _ hb hd => .inl ⟨hd, hb⟩
/-- The argument's block has another tree now. -/
theorem FrT.set (h : FrT w wy tv) (v : Value) : FrT w (wy.setCell ⟨w.heap.size, 0, none⟩ v) v := by
  have hf := (Fr.refl (fun b => b = w.heap.size) wy).setCell ⟨w.heap.size, 0, none⟩ rfl v
  exact ⟨h.bel.trans (hf.toBelow h.bel.size fun x hx => by omega), blk_set h.top _, (hf.block _ (blk_lt h.res) (by omega)).trans h.res⟩
theorem RefIs.set2 (h : RefIs (D2 D w) wy v cap K) (u : Value) : RefIs (D2 D w) (wy.setCell ⟨w.heap.size, 0, none⟩ u) v cap K := h.store (by unfold D2; omega) u
/-- Behind a call of a function of the reference. -/
theorem RefIs.next (h : RefIs (fun b => D2 D w b ∨ wy.heap.size ≤ b) w' v cap K) (hf : FrT w wy tv) : RefIs (D2 D w) w' v cap K := h.mono fun b _ hb => hb.elim id fun h => .inr (by have := hf.size; omega)
/-- The answer. -/
theorem FrT.ret (h : FrT w wy tv) (hr : RefIs (D2 D w) wy v cap K) : (wy.setCell ⟨w.heap.size + 1, 0, none⟩ v).heap[w.heap.size + 1]? = some (.cells #[v] 30 (0, 0)) ∧ RefIs (fun b => D b ∨ w.heap.size ≤ b) (wy.setCell ⟨w.heap.size + 1, 0, none⟩ v) v cap K ∧ Below w.heap.size w (wy.setCell ⟨w.heap.size + 1, 0, none⟩ v) := by
  have hf := (Fr.refl (fun b => b = w.heap.size + 1) wy).setCell ⟨w.heap.size + 1, 0, none⟩ rfl v
  refine ⟨blk_set h.res _, (hr.store (by unfold D2; omega) v).mono fun b _ hb => hb.elim (fun h => .inl h.1) fun h => .inr (by omega), h.bel.trans (hf.toBelow h.bel.size fun x hx => by omega)⟩
theorem results_row_tmp2 {P : Program} {fn : Func} {p x y : Tmp} {ty : TypeId} (h : fn.results = #[.cell p ty, .tmp x, .tmp y]) (tmps : Array Value) (w : World) (g : Nat) (t : TypeId) (cs : Array Value) (fr : Nat × Nat) (d : TypeDesc)
    (hp : tmps.getD p undef = .pointer (some ⟨g, 0, none⟩)) (hg : w.heap[g]? = some (.cells cs t fr))
    (hu : P.underlying ty = some d) (hd : (match d with | .struct _ | .array _ _ => true | _ => false) = true) (hi : (P.info? ty).map (·.size) = some cs.size) :
    (results fn tmps).run P w = .ok (.tuple #[.agg cs, tmps.getD x undef, tmps.getD y undef]) w := by
  have hp' : tmps[p]?.getD undef = .pointer (some ⟨g, 0, none⟩) := by simpa using hp
  simp [results, h, hp', asAddr, run_loadVar_row w g t ty cs fr d hg hu hd hi]
/-- Few names in a directory. -/
theorem few_names (hG : TG M cap) (hc : cap ≤ 201) {p : Nat} {L : List (ByteArray × Nat)} (h : EntL (refM M p).en L) : L.length ≤ 20100 := by
  have h1 := hG.ents_le hc (i := p) (l := L.map fun x => x.1) (entL_nodup h) (fun s hs => by
    obtain ⟨x, hx, rfl⟩ := List.mem_map.1 hs
    have := (h.2 x.1 x.2).1 hx
    rw [refM_en] at this
    rw [this]; rfl)
  rwa [List.length_map] at h1
end
end Go.Proofs.YtoofcnehoffllaaGreat
