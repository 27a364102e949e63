/- What the reference's read makes, plainly; its rows in memory. -/
/- Walk of the reference's read. -/
import Derived.Test.YtklamgijikcnaaaDoorF57
import Derived.Test.YtklamgijikcnaaaDoorF39
namespace Go.Proofs.YtklamgijikcnaaaDoor
open Go.RowKit

theorem zeroRM_size : (Tryd.zeroCells68).size = 601 := by kernel_rfl
theorem zeroRM_is : IsMap Tryd.zeroCells68 (List.replicate 600 0) (.slice none 0 0) := ⟨by kernel_rfl, List.length_replicate ..⟩
theorem all_one {cs : Array Value} (h : ∀ u ∈ cs.toList, u.oneCell' = true) : cs.all (·.oneCell') = true := by
  rw [Array.all_eq_true']
  intro x hx
  exact h x (by simpa using hx)
theorem IsMap.setD {cs : Array Value} {D : List Int} {v : Value} (h : IsMap cs D v) {i : Nat} (hi : i < 600) (x : Int) : IsMap (cs.setIfInBounds i (.int .i64 x)) (D.set i x) v := by
  refine ⟨?_, by rw [List.length_set]; exact h.len⟩
  rw [h.eq, List.setIfInBounds_toArray]
  congr 1
  rw [List.set_append_left _ _ (by rw [ints_length, h.len]; exact hi)]
  unfold ints
  rw [List.map_set]
theorem IsMap.setM {cs : Array Value} {D : List Int} {v : Value} (h : IsMap cs D v) (v' : Value) : IsMap (cs.setIfInBounds 600 v') D v' := by
  refine ⟨?_, h.len⟩
  rw [h.eq, List.setIfInBounds_toArray]
  congr 1
  rw [List.set_append_right _ _ (by rw [ints_length, h.len]; exact Nat.le_refl _), ints_length, h.len]
  rfl
/-- Data's addresses behind what is told. -/
def putE (D : List Int) (E : List (Int × Int)) : List Int := E.foldl (fun D e => if 0 ≤ e.1 then D.set e.1.toNat e.2 else D) D
/-- The blocks of pointers among what is told. -/
def negE (E : List (Int × Int)) : List (Int × Int) := E.filter fun e => decide (e.1 < 0)
theorem putE_append (D : List Int) (E E' : List (Int × Int)) : putE D (E ++ E') = putE (putE D E) E' := by unfold putE; rw [List.foldl_append]
theorem negE_append (E E' : List (Int × Int)) : negE (E ++ E') = negE E ++ negE E' := List.filter_append ..
theorem putE_one (D : List Int) {n x : Int} (h : 0 ≤ n) : putE D [(n, x)] = D.set n.toNat x := by
  show (if 0 ≤ n then D.set n.toNat x else D) = _
  rw [if_pos h]
theorem putE_neg (D : List Int) {n x : Int} (h : n < 0) : putE D [(n, x)] = D := by
  show (if 0 ≤ n then D.set n.toNat x else D) = _
  rw [if_neg (by omega)]
theorem negE_one {n x : Int} (h : 0 ≤ n) : negE [(n, x)] = [] := by unfold negE; rw [List.filter_cons_of_neg (by simp; omega)]; rfl
theorem negE_neg {n x : Int} (h : n < 0) : negE [(n, x)] = [(n, x)] := by unfold negE; rw [List.filter_cons_of_pos (by simpa using h)]; rfl
def capE : Nat → Nat
  | 0 => 0
  | f + 1 => 16 * capE f + 1
theorem flatMap_len_le {α β : Type} (g : α → List β) (c : Nat) : ∀ (l : List α), (∀ a ∈ l, (g a).length ≤ c) → (l.flatMap g).length ≤ l.length * c
  | [], _ => by simp
  | a :: l, h => by
    rw [List.flatMap_cons, List.length_append, List.length_cons, Nat.succ_mul]
    have h1 := h a List.mem_cons_self
    have h2 := flatMap_len_le g c l fun x hx => h x (List.mem_cons_of_mem _ hx)
    omega
theorem negE_flatMap {α : Type} (g : α → List (Int × Int)) : ∀ (l : List α), negE (l.flatMap g) = l.flatMap fun a => negE (g a)
  | [] => rfl
  | a :: l => by rw [List.flatMap_cons, List.flatMap_cons, negE_append, negE_flatMap g l]
theorem eN_cap (rd : Int → Option (List Int)) : ∀ (f : Nat) (n a : Int), (negE (eN rd f n a)).length ≤ capE f
  | 0, _, _ => by simp [eN, negE]
  | f + 1, n, a => by
    by_cases h : 0 ≤ n
    · rw [eN_data rd h, negE_one h]; simp
    · cases hr : rd a with
      | none =>
        unfold eN
        rw [if_neg h, hr]
        show (negE [(n, a)]).length ≤ _
        rw [negE_neg (by omega)]
        unfold capE; simp
      | some bs =>
        rw [eN_meta rd (by omega) hr, negE_append, negE_neg (by omega), List.length_append]
        have : (negE (rowE rd f n (wordsN bs) 16)).length ≤ 16 * capE f := by
          unfold rowE
          rw [negE_flatMap]
          refine Nat.le_trans (flatMap_len_le _ (capE f) _ fun s _ => ?_) (by rw [List.length_range]; exact Nat.le_refl _)
          unfold eS
          split
          · simp [negE]
          · split
            · simp [negE]
            · exact eN_cap rd f _ _
        unfold capE
        simp only [List.length_cons, List.length_nil]
        omega
theorem rowE_cap (rd : Int → Option (List Int)) (f : Nat) (n : Int) (l : List Int) (k : Nat) : (negE (rowE rd f n l k)).length ≤ k * capE f := by
  unfold rowE
  rw [negE_flatMap]
  refine Nat.le_trans (flatMap_len_le _ (capE f) _ fun s _ => ?_) (by rw [List.length_range]; exact Nat.le_refl _)
  unfold eS
  split
  · simp [negE]
  · split
    · simp [negE]
    · exact eN_cap rd f _ _
/-- A row of texts. -/
def SRow (w : World) (v : Value) (S : List (List Int)) : Prop :=
  ∃ a c, v = .slice a S.length c ∧ S.length ≤ c ∧ (0 < S.length → ∃ g, a = some ⟨g, 0, none⟩ ∧ ∀ (j : Nat) s, S[j]? = some s → w.cell? ⟨g, j, none⟩ = some (.string (strOfNums s)))
theorem SRow.below {w w' : World} {v : Value} {S : List (List Int)} (h : SRow w v S) (hb : Below w.heap.size w w') : SRow w' v S := by
  obtain ⟨a, c, rfl, hc, hr⟩ := h
  refine ⟨a, c, rfl, hc, fun h0 => ?_⟩
  obtain ⟨g, rfl, hcell⟩ := hr h0
  refine ⟨g, rfl, fun j u hj => ?_⟩
  have h1 := hcell j u hj
  have hl : g < w.heap.size := block_lt_of_cell h1
  unfold World.cell? at h1 ⊢
  rw [hb.block g hl]
  exact h1
theorem SRow.at {w : World} {a : Option Addr} {n c : Nat} {S : List (List Int)} (h : SRow w (.slice a n c) S) (h0 : 0 < S.length) : ∃ g, a = some ⟨g, 0, none⟩ ∧ n = S.length ∧ n ≤ c ∧ ∀ (j : Nat) s, S[j]? = some s → w.cell? ⟨g, j, none⟩ = some (.string (strOfNums s)) := by
  obtain ⟨a', c', he, hc, hr⟩ := h
  injection he with e1 e2 e3
  subst e1 e2 e3
  obtain ⟨g, rfl, hcell⟩ := hr h0
  exact ⟨g, rfl, rfl, hc, hcell⟩
/-- Blocks by their addresses. -/
def rdZ (Z : List (Int × List Int)) (a : Int) : Option (List Int) := (Z.find? fun z => z.1 == a).map (·.2)
/-- Blocks by their addresses, in memory. -/
structure ZAt (w : World) (vb vs : Value) (Z : List (Int × List Int)) : Prop where
  pl : PRow w vb (Z.map fun z => (0, z.1))
  st : SRow w vs (Z.map (·.2))
  nd : (Z.map (·.1)).Nodup
  by8 : ∀ z ∈ Z, ∀ x ∈ z.2, 0 ≤ x ∧ x < 256
  len : Z.length ≤ 20
theorem ZAt.below {w w' : World} {vb vs : Value} {Z : List (Int × List Int)} (h : ZAt w vb vs Z) (hb : Below w.heap.size w w') : ZAt w' vb vs Z := ⟨h.pl.below hb, h.st.below hb, h.nd, h.by8, h.len⟩
/-- What is found till i. -/
def upTo (Z : List (Int × List Int)) (a : Int) (i : Nat) : List Int := (rdZ (Z.take i) a).getD []
theorem upTo_hit {Z : List (Int × List Int)} {a : Int} {i : Nat} {z : Int × List Int} (hn : (Z.map (·.1)).Nodup) (hz : Z[i]? = some z) (h : z.1 = a) : upTo Z a (i + 1) = z.2 := by
  unfold upTo rdZ
  rw [take_at hz, List.find?_append, List.find?_eq_none.2 (fun x hx => ?_)]
  · simp [h]
  · intro e
    have e' : x.1 = a := by simpa using e
    obtain ⟨j, hj⟩ := List.mem_iff_getElem?.1 hx
    have hji : j < i := by have := (List.getElem?_eq_some_iff.1 hj).1; rw [List.length_take] at this; omega
    rw [List.getElem?_take_of_lt hji] at hj
    have hi := (List.getElem?_eq_some_iff.1 hz).1
    have h1 : (Z.map (·.1))[j]? = some a := by rw [List.getElem?_map, hj]; simp [e']
    have h2 : (Z.map (·.1))[i]? = some a := by rw [List.getElem?_map, hz]; simp [h]
    have := (List.getElem?_inj (by rw [List.length_map]; omega) hn).1 (h1.trans h2.symm)
    omega
theorem upTo_miss {Z : List (Int × List Int)} {a : Int} {i : Nat} {z : Int × List Int} (hz : Z[i]? = some z) (h : z.1 ≠ a) : upTo Z a (i + 1) = upTo Z a i := by
  unfold upTo rdZ
  rw [take_at hz, List.find?_append]
  simp [h]
theorem upTo_all (Z : List (Int × List Int)) (a : Int) : upTo Z a Z.length = (rdZ Z a).getD [] := by unfold upTo; rw [List.take_length]
theorem rdZ_by8 {Z : List (Int × List Int)} {a : Int} (h : ∀ z ∈ Z, ∀ x ∈ z.2, 0 ≤ x ∧ x < 256) : ∀ x ∈ (rdZ Z a).getD [], 0 ≤ x ∧ x < 256 := fun x hx => by
  unfold rdZ at hx
  cases hq : Z.find? fun z => z.1 == a with
  | none => rw [hq] at hx; simp at hx
  | some z => rw [hq] at hx; exact h z (List.mem_of_find?_eq_some hq) x hx
/-- What a refused read answers. -/
def RNo (w : World) (e : Ending) (w' : World) : Prop := ∃ cs' : Array Value, e = .returned (.tuple #[.agg cs', .bool false]) ∧ cs'.size = 601 ∧ (∀ u ∈ cs'.toList, u.oneCell' = true) ∧ Below w.heap.size w w'
def RYes (w : World) (D : List Int) (L E : List (Int × Int)) (e : Ending) (w' : World) : Prop :=
  ∃ cs' v', e = .returned (.tuple #[.agg cs', .bool true]) ∧ IsMap cs' (putE D E) v' ∧ PRow w' v' (L ++ negE E) ∧ Below w.heap.size w w'
def RRes (w : World) (D : List Int) (L E : List (Int × Int)) (ok : Bool) (e : Ending) (w' : World) : Prop := (ok = true ∧ RYes w D L E e w') ∨ (ok = false ∧ RNo w e w')
/-- While a read goes on: the map, the answer. -/
structure RdSt (w : World) (cs : Array Value) (wr : World) : Prop where
  b0 : wr.heap[w.heap.size]? = some (.cells cs 68 (0, 0))
  b1 : wr.heap[w.heap.size + 1]? = some (.cells Tryd.zeroCells68 68 (0, 0))
  bel : Below w.heap.size w wr
theorem RdSt.below {w wr w' : World} {cs : Array Value} (h : RdSt w cs wr) (hb : Below wr.heap.size wr w') : RdSt w cs w' :=
  ⟨(hb.block _ (blk_lt h.b0)).trans h.b0, (hb.block _ (blk_lt h.b1)).trans h.b1, below_call h.bel hb (Nat.le_refl _)⟩
theorem RdSt.new (w : World) (cs : Array Value) : RdSt w cs ((w.alloc (.cells cs 68)).alloc (.cells Tryd.zeroCells68 68)) :=
  ⟨blk_old (blk_new rfl), blk_new (by simp), ((Below.refl _ w).alloc (Nat.le_refl _) _).alloc (by simp) _⟩
theorem run_index_str (xs : List Int) (h8 : ∀ x ∈ xs, 0 ≤ x ∧ x < 256) (k : Nat) (hk : k < xs.length) (w : World) :
    (Instr.index 9 (.string (strOfNums xs)) (.int .i64 k)).run Tryd.prog w = .ok (.int .u8 (xs.getD k 0)) w := by
  have hs : (strOfNums xs).size = xs.length := strOfNums_size xs
  have hx := h8 (xs.getD k 0) (by rw [List.getD_eq_getElem?_getD, List.getElem?_eq_getElem hk]; exact List.getElem_mem hk)
  unfold Instr.index
  simp [asIntOf, run_underlying Tryd.underlying9]
  have hg : (strOfNums xs)[k]? = some (UInt8.ofNat (xs.getD k 0).toNat) := by
    rw [getElem?_pos (strOfNums xs) k (by rw [hs]; exact hk)]
    show some ((xs.map fun n => UInt8.ofNat n.toNat).toArray[k]'(by simpa using hk)) = _
    rw [List.getElem_toArray, List.getElem_map, List.getD_eq_getElem?_getD, List.getElem?_eq_getElem hk]
    rfl
  rw [hg]
  show Sem.run Tryd.prog (pure (Value.int .u8 ((UInt8.ofNat (xs.getD k 0).toNat).toNat : Int))) w = _
  have h2 : ((UInt8.ofNat (xs.getD k 0).toNat).toNat : Int) = xs.getD k 0 := by
    rw [UInt8.toNat_ofNat', Nat.mod_eq_of_lt (by omega)]
    omega
  rw [h2, List.getD_eq_getElem?_getD]
  rfl
end Go.Proofs.YtklamgijikcnaaaDoor

namespace Go.Proofs.YtklamgijikcnaaaDoor
open Go.RowKit

theorem IsMap.all1 {cs : Array Value} {D : List Int} {v : Value} {w : World} {L : List (Int × Int)} (h : IsMap cs D v) (hv : PRow w v L) : ∀ u ∈ cs.toList, u.oneCell' = true := h.one (by obtain ⟨a, c, rfl, _⟩ := hv; rfl)
set_option maxHeartbeats 4000000 in
set_option maxRecDepth 100000 in
theorem rread_great {cs : Array Value} {n a : Int} {vb vs : Value} {w : World} (hz : cs.size = 601) (h1 : ∀ u ∈ cs.toList, u.oneCell' = true) (ha : 4096 ≤ a) :
    Calls Tryd.prog 42 #[.agg cs, .int .i64 n, .int .i64 a, vb, vs] w (RNo w) := by
  have HS := Lib.hid (RdSt.new w cs)
  have H1 := Lib.hid h1; have HZ := Lib.hid hz
  have HZ1 := Lib.hid zeroRM_size
  clear h1 hz
  go_enter Tryd.func42, Tryd.ntmps42
  go_wp2_with (first | (refine wpList_load_row rfl 68 _ rfl _ rfl 68 _ _ _ HS.out.b0 Tryd.underlying68 rfl (by rw [HZ.out]; kernel_rfl) ?_) | (refine wpList_store_row rfl 68 _ _ rfl (w.heap.size + 1) _ rfl rfl 68 _ HS.out.b1 (by rw [HZ.out]; kernel_rfl) (by rw [HZ1.out, HZ.out]) (all_one H1.out) ?_))
  refine bodyPost_ret (results_row_tmp rfl _ _ (w.heap.size + 1) _ _ _ _ rfl (setRow_heap _ _ _ _ _ _ HS.out.b1) Tryd.underlying68 rfl (by rw [HZ.out]; kernel_rfl)) rfl ?_
  exact ⟨_, rfl, HZ.out, H1.out, below_setRow HS.out.bel (by omega) _⟩
set_option maxHeartbeats 4000000 in
set_option maxRecDepth 100000 in
theorem rread_data {cs : Array Value} {D : List Int} {v : Value} {L : List (Int × Int)} {n a : Int} {vb vs : Value} {w : World} (hm : IsMap cs D v) (hv : PRow w v L) (ha : a < 4096) (hn : 0 ≤ n ∧ n < 600) :
    Calls Tryd.prog 42 #[.agg cs, .int .i64 n, .int .i64 a, vb, vs] w (RYes w D L [(n, a)]) := by
  obtain ⟨n0, n1⟩ := hn
  obtain ⟨k, rfl⟩ : ∃ k : Nat, n = k := ⟨n.toNat, by omega⟩
  have hk : k < 600 := by omega
  have hst := RdSt.new w cs
  have HM2 := Lib.hid (hm.setD hk a)
  have HMZ := Lib.hid (hm.setD hk a).size
  have HE : Hid (putE D [((k : Int), a)] = D.set k a ∧ negE [((k : Int), a)] = []) := Lib.hid ⟨by rw [putE_one D (by omega), Int.toNat_natCast], negE_one (by omega)⟩
  have HZ1 := Lib.hid zeroRM_size
  have HV := Lib.hid hv
  obtain ⟨x, hx⟩ : ∃ x, cs[k]? = some x := ⟨_, Array.getElem?_eq_getElem (by rw [hm.size]; omega)⟩
  have c1 := cell_blk_some hst.b0 hx
  have f1 := free_blk (i := k) hst.b0
  have HS := Lib.hid (RdSt.new w (cs.setIfInBounds k (.int .i64 a)))
  have H1 := Lib.hid ((hm.setD hk a).all1 hv)
  clear hm hv hst hx
  go_enter Tryd.func42, Tryd.ntmps42
  go_wp2_with (first | (refine wpList_load_row rfl 68 _ rfl _ rfl 68 _ _ _ HS.out.b0 Tryd.underlying68 rfl (by rw [HMZ.out]; kernel_rfl) ?_) | (refine wpList_store_row rfl 68 _ _ rfl (w.heap.size + 1) _ rfl rfl 68 _ HS.out.b1 (by rw [HMZ.out]; kernel_rfl) (by rw [HZ1.out, HMZ.out]) (all_one H1.out) ?_))
  refine bodyPost_ret (results_row_tmp rfl _ _ (w.heap.size + 1) _ _ _ _ rfl (setRow_heap _ _ _ _ _ _ HS.out.b1) Tryd.underlying68 rfl (by rw [HMZ.out]; kernel_rfl)) rfl ?_
  have hb := below_setRow HS.out.bel (g := w.heap.size + 1) (by omega) (cs.setIfInBounds k (.int .i64 a))
  exact ⟨_, v, rfl, by rw [HE.out.1]; exact HM2.out, by rw [HE.out.2, List.append_nil]; exact HV.out.below hb, hb⟩
end Go.Proofs.YtklamgijikcnaaaDoor
