/- A drawing region walked once over a class of worlds of one's own (Derived/Deep/Quiet): loads of whole rows, conversions; the class 'below B nothing has turned'. -/
/- The reference's map (marlref16) in memory; walks of Many, covers, Get, Child. -/
/- Walks of the reference's covers, Has, Child. -/
/- Walks of the reference's Child, of marlref03's Four, of marlref05's Block. -/
/- Walks of marlref03's Four, of marlref05's Block. -/
/- Walk of the reference's Block. -/
/- Walk of the reference's Metas. -/
/- Walk of the reference's Places. -/
/- Walk of the reference's Root. -/
import Derived.Test.YtklamgijikcnaaaDoorBase
import Derived.Deep.QuietTactic
import Derived.BigQuiet
import Derived.Test.YtklamgijikcnaaaDoorF33
import Derived.Test.YtklamgijikcnaaaDoorF38
import Derived.Test.YtklamgijikcnaaaDoorF37
import Derived.Test.YtklamgijikcnaaaDoorVals
namespace Go.Proofs.YtklamgijikcnaaaDoor
open Go.RowKit

section
variable {P : Program} {C : World → Prop} {o : Oper} {a : Act} {K : Act → Prop}
theorem wp_region_class {id : Nat} {Q : Exit → Act → World → Prop} {w : World} {l : List Oper} (hm : P.follows .mixedOrders = true) (hB : Region.lexB .any l.toArray = true) (hC : C { w with drawn := w.drawn + 1 })
    (h : wpQuiet P l.toArray C (fun a' => ∀ w', C w' → Q .normal a' w') l a) : (Code.region id l.toArray true).wp P Q a w :=
  wp_region_quiet (C := C) hm hB hC (by simpa using h)
theorem quiet_load_row (ty : TypeId) (x : Operand) (ho : o.op = .load ty x)
    (g : Nat) (hx : a.eval x = .pointer (some ⟨g, 0, none⟩)) (t : TypeId) (cs : Array Value) (fr : Nat × Nat) (d : TypeDesc) (hg : ∀ w, C w → w.heap[g]? = some (.cells cs t fr))
    (hu : P.underlying ty = some d) (hd : (match d with | .struct _ | .array _ _ => true | _ => false) = true) (hi : (P.info? ty).map (·.size) = some cs.size)
    (hk : K (a.put o.dst (.agg cs))) : o.quiet P a C K :=
  ⟨_, fun w hw => by
    unfold Oper.quietAt execOp
    simp only [ho, hx, Instr.loadAt, Instr.sureAddr, Sem.run_bind, Sem.run_pure, Result.andThen_ok, run_loadVar_row w g t ty cs fr d (hg w hw) hu hd hi]
    exact ⟨rfl, rfl⟩, hk⟩
theorem quiet_convert (s t : TypeId) (x : Operand) (ho : o.op = .convert s t x) (v : Value) (hc : ∀ w, C w → (convert s t (a.eval x)).run P w = .ok v w)
    (hk : K (a.put o.dst v)) : o.quiet P a C K :=
  ⟨v, fun w hw => by
    unfold Oper.quietAt execOp
    rw [ho]
    simp [hc w hw, Result.andThen, Oper.quietUpon], hk⟩
/-- Any operation that yields v and leaves the world. -/
theorem quiet_of_run (v : Value) (hr : ∀ w, C w → (execOp a.eval o).run P w = .ok (.value v) w) (hk : K (a.put o.dst v)) : o.quiet P a C K :=
  ⟨v, fun w hw => by unfold Oper.quietAt; rw [hr w hw]; exact ⟨rfl, rfl⟩, hk⟩
end
/-- The class 'below B nothing has turned', as the walk's simplifier likes it: the values of a function. -/
theorem below_class (B : Nat) (w : World) : ∃ (T : Type) (f : T → World), Nonempty T ∧ (∀ t, Below B w (f t)) ∧ ∀ w', Below B w w' → ∃ t, w' = f t :=
  ⟨{ w' : World // Below B w w' }, Subtype.val, ⟨⟨w, Below.refl _ w⟩⟩, fun t => t.2, fun w' h => ⟨⟨w', h⟩, rfl⟩⟩
end Go.Proofs.YtklamgijikcnaaaDoor

namespace Go.Proofs.YtklamgijikcnaaaDoor
open Go.RowKit

/-- A slice of places. -/
def PRow (w : World) (v : Value) (L : List (Int × Int)) : Prop :=
  ∃ a c, v = .slice a L.length c ∧ L.length ≤ c ∧ (0 < L.length → ∃ g, a = some ⟨g, 0, none⟩ ∧ (∃ cur fr, w.heap[g]? = some (Obj.cells cur 65 fr)) ∧ ∀ (j : Nat) u, (flat2 L)[j]? = some u → w.cell? ⟨g, j, none⟩ = some u)
theorem PRow.keep {w w' : World} {v : Value} {L : List (Int × Int)} (h : PRow w v L) (hb : ∀ (g : Nat) (cur : Array Value) (fr : Nat × Nat), w.heap[g]? = some (Obj.cells cur 65 fr) → w'.heap[g]? = w.heap[g]?) : PRow w' v L := by
  obtain ⟨a, c, rfl, hc, hr⟩ := h
  refine ⟨a, c, rfl, hc, fun h0 => ?_⟩
  obtain ⟨g, rfl, ⟨cur, fr, hg⟩, hcell⟩ := hr h0
  have hk := hb g cur fr hg
  refine ⟨g, rfl, ⟨cur, fr, hk.trans hg⟩, fun j u hj => ?_⟩
  have h1 := hcell j u hj
  unfold World.cell? at h1 ⊢
  rw [hk]
  exact h1
theorem PRow.below {w w' : World} {v : Value} {L : List (Int × Int)} (h : PRow w v L) (hb : Below w.heap.size w w') : PRow w' v L := h.keep fun g _ _ hg => hb.block g (blk_lt hg)
theorem PRow.setRow {w : World} {v : Value} {L : List (Int × Int)} {b : Nat} {cs : Array Value} {t : TypeId} {fr : Nat × Nat} (h : PRow w v L) (hb : w.heap[b]? = some (.cells cs t fr)) (cs' : Array Value) (ht : t ≠ 65 := by decide) : PRow (w.setRow b cs') v L :=
  h.keep fun g _ _ hg => setRow_other w b g cs' fun e => by
    rw [e, hb] at hg
    injection hg with hg
    injection hg with _ hg _
    exact ht hg
theorem PRow.setCell {w : World} {v : Value} {L : List (Int × Int)} {b i : Nat} {cs : Array Value} {t : TypeId} {fr : Nat × Nat} (h : PRow w v L) (hb : w.heap[b]? = some (.cells cs t fr)) (x : Value) (ht : t ≠ 65 := by decide) : PRow (w.setCell ⟨b, i, none⟩ x) v L :=
  h.keep fun g _ _ hg => heap_setCell_other w ⟨b, i, none⟩ g x fun e => by
    rw [show g = b from e, hb] at hg
    injection hg with hg
    injection hg with _ hg _
    exact ht hg
theorem PRow.nil (w : World) : PRow w (.slice none 0 0) [] := ⟨none, 0, rfl, by simp, fun h => by simp at h⟩
theorem PRow.shape {w : World} {v : Value} {L : List (Int × Int)} (h : PRow w v L) : ∃ a c, v = .slice a L.length c := by
  obtain ⟨a, c, rfl, _⟩ := h; exact ⟨_, _, rfl⟩
theorem PRow.src {w : World} {v : Value} {L : List (Int × Int)} (h : PRow w v L) : SrcG 2 w v L.length (flat2 L) := by
  obtain ⟨a, c, rfl, hc, hr⟩ := h
  refine ⟨a, c, rfl, flat2_length L, flat2_one L, fun h0 => ?_⟩
  obtain ⟨g, rfl, _, hcell⟩ := hr h0
  refine ⟨_, rfl, fun j u hj => ?_⟩
  have hadd : (⟨g, 0, none⟩ : Addr).add j = ⟨g, j, none⟩ := by unfold Addr.add; split <;> simp_all
  rw [hadd]
  exact hcell j u hj
theorem PRow.of_own {w : World} {B : Nat} {v : Value} {L : List (Int × Int)} (h : w.ownsRow B 65 2 v L.length (flat2 L)) : PRow w v L := by
  rcases h.2 with ⟨rfl, h0⟩ | ⟨g, cap, cur, rfl, _, hg, hc, _, _, ht⟩
  · obtain rfl := List.eq_nil_of_length_eq_zero h0
    exact PRow.nil w
  · refine ⟨_, cap, rfl, hc, fun h0 => ⟨g, rfl, ⟨_, _, hg⟩, fun j u hj => cell_blk_some hg ?_⟩⟩
    have hjl := (List.getElem?_eq_some_iff.1 hj).1
    rw [h.1] at hjl
    rw [← ht, List.getElem?_take_of_lt hjl, Array.getElem?_toList] at hj
    exact hj
theorem PRow.at {w : World} {a : Option Addr} {n c : Nat} {L : List (Int × Int)} (h : PRow w (.slice a n c) L) (h0 : 0 < L.length) : ∃ g, a = some ⟨g, 0, none⟩ ∧ n = L.length ∧ n ≤ c ∧ ∀ (j : Nat) p, L[j]? = some p → w.cell? ⟨g, j * 2, none⟩ = some (.int .i64 p.1) ∧ w.cell? ⟨g, j * 2 + 1, none⟩ = some (.int .i64 p.2) := by
  obtain ⟨a', c', he, hc, hr⟩ := h
  injection he with e1 e2 e3
  subst e1 e2 e3
  obtain ⟨g, rfl, _, hcell⟩ := hr h0
  exact ⟨g, rfl, rfl, hc, fun j p hj => ⟨hcell _ _ (flat2_at hj).1, hcell _ _ (flat2_at hj).2⟩⟩
/-- The cells of a map: 600 addresses of data, then the blocks of pointers. -/
structure IsMap (cs : Array Value) (D : List Int) (v : Value) : Prop where
  eq : cs = (ints D ++ [v]).toArray
  len : D.length = 600
theorem IsMap.size {cs : Array Value} {D : List Int} {v : Value} (h : IsMap cs D v) : cs.size = 601 := by rw [h.eq]; simp [ints_length, h.len]
theorem IsMap.data {cs : Array Value} {D : List Int} {v : Value} (h : IsMap cs D v) {i : Nat} {x : Int} (hx : D[i]? = some x) : cs[i]? = some (.int .i64 x) := by
  have hi := (List.getElem?_eq_some_iff.1 hx).1
  rw [h.eq, List.getElem?_toArray, List.getElem?_append_left (by rw [ints_length]; exact hi)]
  exact ints_at hx
theorem IsMap.metas {cs : Array Value} {D : List Int} {v : Value} (h : IsMap cs D v) : cs[600]? = some v := by
  rw [h.eq, List.getElem?_toArray, List.getElem?_append_right (by rw [ints_length, h.len]; exact Nat.le_refl _), ints_length, h.len]; rfl
theorem IsMap.one {cs : Array Value} {D : List Int} {v : Value} (h : IsMap cs D v) (hv : v.oneCell' = true) : ∀ u ∈ cs.toList, u.oneCell' = true := fun u hu => by
  rw [h.eq] at hu
  rcases List.mem_append.1 hu with hu | hu
  · exact ints_one _ u hu
  · rw [List.mem_singleton.1 hu]; exact hv
theorem infoRMap : (Tryd.prog.info? 68).map (·.size) = some 601 := by kernel_rfl
/-- Get, plainly. -/
def rgetL (L : List (Int × Int)) (n : Int) : Int := ((L.find? fun p => p.1 == n).map (·.2)).getD 0
def rgetN (D : List Int) (L : List (Int × Int)) (n : Int) : Int := if 0 ≤ n then D.getD n.toNat 0 else rgetL L n
theorem rgetL_drop {L : List (Int × Int)} {n : Int} {j : Nat} (h : ∀ p ∈ L.take j, p.1 ≠ n) : rgetL L n = rgetL (L.drop j) n := by
  unfold rgetL
  conv => lhs; rw [← List.take_append_drop j L]
  rw [List.find?_append, List.find?_eq_none.2 (fun p hp => by simp [h p hp])]
  rfl
set_option maxRecDepth 100000 in
theorem rget_any {cs : Array Value} {D : List Int} {v : Value} {L : List (Int × Int)} {w : World} (n : Int) (hm : IsMap cs D v) (hv : PRow w v L) (hl : L.length ≤ 100000) :
    Calls Tryd.prog 48 #[.agg cs, .int .i64 n] w fun e w' => e = .returned (.int .i64 (rgetN D L n)) ∧ Below w.heap.size w w' := by
  have hb1 : Below w.heap.size w (w.alloc (.cells cs 68)) := (Below.refl _ w).alloc (Nat.le_refl _) _
  have ob : (w.alloc (.cells cs 68)).heap[w.heap.size]? = some (.cells cs 68 (0, 0)) := blk_new rfl
  have HB1 := Lib.hid hb1
  by_cases h0 : 0 ≤ n
  · by_cases h6 : n < 600
    · obtain ⟨k, rfl⟩ : ∃ k : Nat, n = k := ⟨n.toNat, by omega⟩
      obtain ⟨x, hx⟩ : ∃ x, D[k]? = some x := ⟨_, List.getElem?_eq_getElem (by rw [hm.len]; omega)⟩
      have hr : rgetN D L (k : Int) = x := by unfold rgetN; rw [if_pos h0, List.getD_eq_getElem?_getD]; simp [hx]
      have c1 := cell_blk_some ob (hm.data hx)
      have HR := Lib.hid hr
      clear hr hx hm hv ob hb1 hl
      go_enter Tryd.func48, Tryd.ntmps48
      go_wp2_with fail
      go_ret
      exact ⟨by rw [HR.out]; rfl, HB1.out⟩
    · have hr : rgetN D L n = 0 := by unfold rgetN; rw [if_pos h0, List.getD_eq_getElem?_getD, List.getElem?_eq_none (by rw [hm.len]; omega)]; rfl
      have HR := Lib.hid hr
      clear hr hm hv ob hb1 hl
      go_enter Tryd.func48, Tryd.ntmps48
      go_wp2_with fail
      go_ret
      exact ⟨by rw [HR.out]; rfl, HB1.out⟩
  · have hr : rgetN D L n = rgetL L n := by unfold rgetN; rw [if_neg h0]
    have hv1 := hv.below hb1
    obtain ⟨a, c, rfl⟩ := hv1.shape
    have c1 := cell_blk_some ob hm.metas
    have HR := Lib.hid hr; have HV := Lib.hid hv1
    have HL : Hid (L.length ≤ 100000) := Lib.hid hl
    clear hr hv hb1 hl hm ob
    have hm1 : ((L.length : Nat) : Int) ≤ 100000 := by have := HL.out; omega
    go_enter Tryd.func48, Tryd.ntmps48
    go_wp2_with fail
    generalize w.alloc (.cells cs 68) = w1 at *
    go_loop [17] (fun i => ∃ k : Nat, k ≤ L.length ∧ i = .int .i64 k ∧ ∀ p ∈ L.take k, p.1 ≠ n) (fun i => L.length - (RowKit.intOf i).toNat)
    case atStart => exact ⟨0, by omega, rfl, fun p hp => by simp at hp⟩
    case round =>
      obtain ⟨k, hk, rfl, hno⟩ := hrel
      have HNO := Lib.hid hno
      clear hno
      by_cases hkl : k < L.length
      · obtain ⟨p, hp⟩ : ∃ p, L[k]? = some p := ⟨_, List.getElem?_eq_getElem hkl⟩
        obtain ⟨g, rfl, _, hlc, hcell⟩ := HV.out.at (by omega)
        obtain ⟨k0, k1⟩ := hcell k p hp
        have HP := Lib.hid hp
        have b0 : (0 : Int) ≤ (k : Int) := by omega
        have b1 : (k : Int) < (L.length : Int) := by omega
        clear hcell hp
        by_cases e : p.1 = n
        · have e1 : (p.1 == n) = true := by simp [e]
          have hr : rgetL L n = p.2 := by
            rw [rgetL_drop HNO.out]
            have := List.getElem?_eq_some_iff.1 HP.out
            obtain ⟨hl', rfl⟩ := this
            rw [List.drop_eq_getElem_cons hl']
            unfold rgetL
            rw [List.find?_cons]; simp only [e1]; rfl
          have HR2 := Lib.hid hr
          clear hr
          go_wp2_with fail
          go_ret
          exact ⟨by rw [HR.out, HR2.out]; rfl, HB1.out⟩
        · have e1 : (p.1 == n) = false := by simp [e]
          have HE := Lib.hid e
          clear e
          go_wp2_with fail
          go_roundw
          case rel => exact ⟨k + 1, by omega, by go_num, fun q hq => by
            rw [take_at HP.out] at hq
            rcases List.mem_append.1 hq with hq | hq
            · exact HNO.out q hq
            · rw [List.mem_singleton.1 hq]; exact HE.out⟩
          case measure => simp only [RowKit.intOf]; omega
      · obtain rfl : k = L.length := by omega
        have hr : rgetL L n = 0 := by rw [rgetL_drop HNO.out, List.drop_length]; rfl
        have HR2 := Lib.hid hr
        clear hr
        go_wp2_with fail
        go_ret
        exact ⟨by rw [HR.out, HR2.out]; rfl, HB1.out⟩
/-- How many data a block covers. -/
def manyN (l : Nat) (f : Int) : Int := if f + wideN l > 600 then 600 - f else wideN l
set_option maxRecDepth 100000 in
theorem many_any (n f r : Int) (l : Nat) (mv sv : Value) (hl : l ≤ 3) (hf : 0 ≤ f ∧ f < 600) (w : World) :
    Calls Tryd.prog 84 #[.agg #[.int .i64 n, .int .i64 l, .int .i64 f, .int .i64 r, mv, sv]] w fun e w' => e = .returned (.int .i64 (manyN l f)) ∧ Below w.heap.size w w' := by
  obtain ⟨f0, f1⟩ := hf
  have hw := wideN_bd l
  have HW := Lib.hid fun w => rwidth_any l hl w
  have HM : Hid (manyN l f = if f + wideN l > 600 then 600 - f else wideN l) := Lib.hid rfl
  clear hl
  generalize wideN l = z at hw HW HM
  obtain ⟨z0, z1⟩ := hw
  have hz : Hid (Below w.heap.size w (w.alloc (.cells #[.int .i64 n, .int .i64 l, .int .i64 f, .int .i64 r, mv, sv] 34))) := Lib.hid ((Below.refl _ w).alloc (Nat.le_refl _) _)
  generalize manyN l f = q at HM ⊢
  go_enter Tryd.func84, Tryd.ntmps84
  go_wp2_with fail
  refine (HW.out _).mono ?_
  rintro e w1 ⟨rfl, rfl⟩
  by_cases h6 : f + z > 600
  · have HQ : Hid (q = 600 - f) := Lib.hid (by rw [HM.out, if_pos h6])
    clear HM
    go_wp2_with fail
    go_ret
    exact ⟨by rw [HQ.out]; rfl, hz.out⟩
  · have HQ : Hid (q = z) := Lib.hid (by rw [HM.out, if_neg h6])
    clear HM
    go_wp2_with fail
    go_ret
    exact ⟨by rw [HQ.out]; rfl, hz.out⟩
end Go.Proofs.YtklamgijikcnaaaDoor

namespace Go.Proofs.YtklamgijikcnaaaDoor
open Go.RowKit

/-- Does a block of level l, from f on, cover data with an address? -/
def covN (D : List Int) (l : Nat) (f : Int) : Bool := (List.range (manyN l f).toNat).any fun j => decide (D.getD (f.toNat + j) 0 ≠ 0)
theorem manyN_bd (l : Nat) {f : Int} (hf : 0 ≤ f ∧ f < 600) : 0 < manyN l f ∧ f + manyN l f ≤ 600 := by
  have := wideN_bd l
  unfold manyN
  split
  · omega
  · omega
structure CovSt (w : World) (cs : Array Value) (xs : Array Value) (wr : World) : Prop where
  mb : wr.heap[w.heap.size]? = some (.cells cs 68 (0, 0))
  xb : wr.heap[w.heap.size + 1]? = some (.cells xs 34 (0, 0))
  bel : Below w.heap.size w wr
theorem CovSt.below {w wr w' : World} {cs xs : Array Value} (h : CovSt w cs xs wr) (hb : Below wr.heap.size wr w') : CovSt w cs xs w' :=
  ⟨(hb.block _ (blk_lt h.mb)).trans h.mb, (hb.block _ (blk_lt h.xb)).trans h.xb, below_call h.bel hb (Nat.le_refl _)⟩
set_option maxRecDepth 100000 in
theorem rcov_any {cs : Array Value} {D : List Int} {v : Value} (hm : IsMap cs D v) (n f r : Int) (l : Nat) (mv sv : Value) (hl : l ≤ 3) (hf : 0 ≤ f ∧ f < 600) (w : World) :
    Calls Tryd.prog 65 #[.agg cs, .agg #[.int .i64 n, .int .i64 l, .int .i64 f, .int .i64 r, mv, sv]] w fun e w' => e = .returned (.bool (covN D l f)) ∧ Below w.heap.size w w' := by
  have ST : Hid (CovSt w cs #[.int .i64 n, .int .i64 l, .int .i64 f, .int .i64 r, mv, sv] ((w.alloc (.cells cs 68)).alloc (.cells #[.int .i64 n, .int .i64 l, .int .i64 f, .int .i64 r, mv, sv] 34))) :=
    Lib.hid ⟨blk_old (blk_new rfl), blk_new (by simp), ((Below.refl _ w).alloc (Nat.le_refl _) _).alloc (by simp) _⟩
  have HM := Lib.hid hm
  have HMA := Lib.hid fun w => many_any n f r l mv sv hl hf w
  have hbd := manyN_bd l hf
  obtain ⟨f0, f1⟩ := hf
  obtain ⟨q, hq⟩ : ∃ q : Nat, manyN l f = q := ⟨(manyN l f).toNat, by omega⟩
  have HC : Hid (covN D l f = (List.range q).any fun j => decide (D.getD (f.toNat + j) 0 ≠ 0)) := Lib.hid (by unfold covN; rw [hq]; simp)
  rw [hq] at hbd HMA
  generalize covN D l f = cv at HC ⊢
  obtain ⟨k, rfl⟩ : ∃ k : Nat, f = k := ⟨f.toNat, by omega⟩
  rw [Int.toNat_natCast] at HC
  clear hm hl hq
  obtain ⟨q0, q1⟩ := hbd
  have hx0 := cell_blk_some ST.out.xb (i := 2) rfl
  go_enter Tryd.func65, Tryd.ntmps65
  go_wp2_with fail
  generalize ((w.alloc (.cells cs 68)).alloc (.cells #[.int .i64 n, .int .i64 l, .int .i64 k, .int .i64 r, mv, sv] 34)) = w1 at *
  clear hx0
  go_loopw [5] (fun i wr => ∃ j : Nat, j ≤ q ∧ i = .int .i64 ((k + j : Nat) : Int) ∧ (∀ t, t < j → D.getD (k + t) 0 = 0) ∧ CovSt w cs #[.int .i64 n, .int .i64 l, .int .i64 k, .int .i64 r, mv, sv] wr) (fun i _ => (k + q - RowKit.intOf i).toNat)
  case atStart => exact ⟨0, by omega, by go_num, fun t ht => by omega, ST.out⟩
  case round =>
    obtain ⟨j, hj, rfl, hno, hst⟩ := hrel
    have HNO := Lib.hid hno; have HS := Lib.hid hst
    clear hno hst ST
    have c0 := cell_blk_some HS.out.xb (i := 0) rfl
    have c1 := cell_blk_some HS.out.xb (i := 1) rfl
    have c2 := cell_blk_some HS.out.xb (i := 2) rfl
    have c3 := cell_blk_some HS.out.xb (i := 3) rfl
    have c4 := cell_blk_some HS.out.xb (i := 4) rfl
    have c5 := cell_blk_some HS.out.xb (i := 5) rfl
    have HD := Lib.hid (HS.out.below (Below.refl _ wr).drew)
    have hkq : IntKind.i64.wrap ((k : Int) + q) = (k : Int) + q := IntWalk.i64_in _ (by omega)
    go_wp2_with fail
    go_region_law
      (go_simp; go_at_call 84; refine (HMA.out _).mono ?_
       rintro e w2 ⟨rfl, hb2⟩
       have HS2 := Lib.hid (HD.out.below hb2)
       clear hb2
       have d2 := cell_blk_some HS2.out.xb (i := 2) rfl)
    all_goals
      clear c0 c1 c2 c3 c4 c5 d2 HS HD HMA
      by_cases hjq : j < q
      · obtain ⟨x, hx⟩ : ∃ x, D[k + j]? = some x := ⟨_, List.getElem?_eq_getElem (by rw [HM.out.len]; omega)⟩
        have c1 := cell_blk_some HS2.out.mb (HM.out.data hx)
        have hg : D.getD (k + j) 0 = x := by rw [List.getD_eq_getElem?_getD, hx]; rfl
        have HG := Lib.hid hg
        have b0 : (0 : Int) ≤ ((k + j : Nat) : Int) := by omega
        have b1 : ((k + j : Nat) : Int) < 600 := by omega
        have b2 : ((k + j : Nat) : Int) < (k : Int) + q := by omega
        clear hx hg
        by_cases e : x = 0
        · subst e
          go_wp2_with fail
          go_roundw
          case rel => exact ⟨j + 1, by omega, by go_num, fun t ht => by
            by_cases et : t = j
            · rw [et]; exact HG.out
            · exact HNO.out t (by omega), HS2.out⟩
          case measure => simp only [RowKit.intOf]; omega
        · have hr : cv = true := by
            rw [HC.out]
            exact List.any_eq_true.2 ⟨j, List.mem_range.2 hjq, by rw [HG.out]; exact decide_eq_true e⟩
          have HR := Lib.hid hr
          clear hr
          go_wp2_with fail
          go_ret
          exact ⟨by rw [HR.out]; rfl, HS2.out.bel⟩
      · obtain rfl : j = q := by omega
        have hr : cv = false := by
          rw [HC.out, List.any_eq_false]
          intro t ht
          rw [HNO.out t (List.mem_range.1 ht)]
          decide
        have HR := Lib.hid hr
        clear hr
        go_wp2_with fail
        go_ret
        exact ⟨by rw [HR.out]; rfl, HS2.out.bel⟩
theorem allN_n : allN.map (·.n) = metasN := by decide +kernel
theorem allN_pos : ∀ m ∈ allN, 0 ≤ m.first := fun m hm => (allN_first m hm).1
theorem rfind_meta : ∀ n ∈ metasN, (rfindN n).map (fun r => (r.n, r.lvl, r.first)) = some (n, (lvlN n : Int), fstN n) := by decide +kernel
theorem rfind_no {n : Int} (h0 : n < 0) (h : n ∉ metasN) : rfindN n = none := by
  unfold rfindN
  rw [if_neg (by omega), List.findSome?_eq_none_iff]
  intro m hm
  unfold hitR
  have h1 := allN_pos m hm
  rw [if_neg (fun e => h (by rw [← allN_n]; exact List.mem_map.2 ⟨m, hm, e⟩)), if_neg (by omega)]
/-- Find of a number below 0. -/
def RNeg (n : Int) (w : World) (e : Ending) (w' : World) : Prop :=
  ∃ xn xl xf xr ma ml mc sa sl sc, e = .returned (.tuple #[.agg #[.int .i64 xn, .int .i64 xl, .int .i64 xf, .int .i64 xr, .slice ma ml mc, .slice sa sl sc], .bool (decide (n ∈ metasN))]) ∧ (n ∈ metasN → xl = (lvlN n : Int) ∧ xf = fstN n) ∧ Below w.heap.size w w'
theorem rfind_neg {n : Int} (h0 : n < 0) (w : World) : Calls Tryd.prog 12 #[.int .i64 n] w (RNeg n w) := by
  refine (rfind_any n w).mono ?_
  rintro e w' ⟨⟨xn, xl, xf, xr, xm, xs'⟩, rfl, hx, hb⟩
  have hms := hx.ms; have hss := hx.ss
  obtain ⟨ma, mc, hma⟩ := hms.shape
  obtain ⟨sa, sc, hsa⟩ := hss.shape
  dsimp only at hma hsa
  subst hma hsa
  have hl := hx.lvl; have hf := hx.first
  dsimp only at hl hf
  by_cases hm : n ∈ metasN
  · have hr := rfind_meta n hm
    cases hq : rfindN n with
    | none => rw [hq] at hr; cases hr
    | some r =>
      rw [hq] at hr hl hf
      injection hr with hr
      injection hr with _ hr
      injection hr with h1 h2
      exact ⟨_, _, _, _, _, _, _, _, _, _, by rw [decide_eq_true hm]; rfl, fun _ => ⟨hl.trans h1, hf.trans h2⟩, hb⟩
  · rw [rfind_no h0 hm]
    exact ⟨_, _, _, _, _, _, _, _, _, _, by rw [decide_eq_false hm]; rfl, fun h => absurd h hm, hb⟩
/-- Has, plainly. -/
def rhasN (D : List Int) (n : Int) : Bool := if 0 ≤ n then decide (D.getD n.toNat 0 ≠ 0) else decide (n ∈ metasN) && covN D (lvlN n) (fstN n)
theorem meta_fst : ∀ n ∈ metasN, 0 ≤ fstN n ∧ fstN n < 600 ∧ 1 ≤ lvlN n ∧ lvlN n ≤ 3 := by decide +kernel
set_option maxHeartbeats 1000000 in
set_option maxRecDepth 100000 in
theorem rhas_any {cs : Array Value} {D : List Int} {v : Value} {w : World} (n : Int) (hm : IsMap cs D v) :
    Calls Tryd.prog 49 #[.agg cs, .int .i64 n] w fun e w' => e = .returned (.bool (rhasN D n)) ∧ Below w.heap.size w w' := by
  have HB1 := Lib.hid (show Below w.heap.size w (w.alloc (.cells cs 68)) from (Below.refl _ w).alloc (Nat.le_refl _) _)
  have OB : Hid ((w.alloc (.cells cs 68)).heap[w.heap.size]? = some (.cells cs 68 (0, 0))) := Lib.hid (blk_new rfl)
  have HM := Lib.hid hm
  have HSZ := Lib.hid hm.size
  clear hm
  by_cases h0 : 0 ≤ n
  · have hr : rhasN D n = decide (D.getD n.toNat 0 ≠ 0) := by unfold rhasN; rw [if_pos h0]
    have HR := Lib.hid hr
    clear hr
    by_cases h6 : n < 600
    · obtain ⟨k, rfl⟩ : ∃ k : Nat, n = k := ⟨n.toNat, by omega⟩
      obtain ⟨x, hx⟩ : ∃ x, D[k]? = some x := ⟨_, List.getElem?_eq_getElem (by rw [HM.out.len]; omega)⟩
      have hg : D.getD ((k : Int).toNat) 0 = x := by rw [Int.toNat_natCast, List.getD_eq_getElem?_getD, hx]; rfl
      have c1 := cell_blk_some OB.out (HM.out.data hx)
      have HG := Lib.hid hg
      clear hg hx
      by_cases e : x = 0
      · subst e
        go_enter Tryd.func49, Tryd.ntmps49
        go_wp2_with fail
        go_ret
        exact ⟨by rw [HR.out, HG.out]; rfl, HB1.out⟩
      · have e1 : (x != 0) = true := by simp [e]
        have HE := Lib.hid e
        clear e
        go_enter Tryd.func49, Tryd.ntmps49
        go_wp2_with fail
        go_ret
        exact ⟨by rw [HR.out, HG.out, decide_eq_true HE.out]; rfl, HB1.out⟩
    · have hg : D.getD n.toNat 0 = 0 := by rw [List.getD_eq_getElem?_getD, List.getElem?_eq_none (by rw [HM.out.len]; omega)]; rfl
      have HG := Lib.hid hg
      clear hg
      go_enter Tryd.func49, Tryd.ntmps49
      go_wp2_with fail
      go_ret
      exact ⟨by rw [HR.out, HG.out]; rfl, HB1.out⟩
  · have hr : rhasN D n = (decide (n ∈ metasN) && covN D (lvlN n) (fstN n)) := by unfold rhasN; rw [if_neg h0]
    have HR := Lib.hid hr
    have HF := Lib.hid (rfind_neg (n := n) (by omega) (w.alloc (.cells cs 68)))
    clear hr
    go_enter Tryd.func49, Tryd.ntmps49
    go_wp2_with fail
    generalize w.alloc (.cells cs 68) = w1 at *
    refine HF.out.mono ?_
    rintro e w2 ⟨xn, xl, xf, xr, ma, ml, mc, sa, sl, sc, rfl, hx, hb2⟩
    have hb3 : Below w1.heap.size w1 (w2.alloc (.cells #[.int .i64 xn, .int .i64 xl, .int .i64 xf, .int .i64 xr, .slice ma ml mc, .slice sa sl sc] 34)) := hb2.alloc hb2.size _
    have HB3 := Lib.hid (below_call HB1.out hb3 (Nat.le_refl _))
    have OB3 := Lib.hid ((hb3.block _ (blk_lt OB.out)).trans OB.out)
    have OX : Hid ((w2.alloc (.cells #[.int .i64 xn, .int .i64 xl, .int .i64 xf, .int .i64 xr, .slice ma ml mc, .slice sa sl sc] 34)).heap[w2.heap.size]? = some (.cells #[.int .i64 xn, .int .i64 xl, .int .i64 xf, .int .i64 xr, .slice ma ml mc, .slice sa sl sc] 34 (0, 0))) := Lib.hid (blk_new rfl)
    clear hb2 hb3 HF HB1
    have ho := OB3.out
    by_cases hn : n ∈ metasN
    · have hd : decide (n ∈ metasN) = true := decide_eq_true hn
      obtain ⟨rfl, rfl⟩ := hx hn
      obtain ⟨f0, f1, l1, l2⟩ := meta_fst n hn
      have HC := Lib.hid fun w => rcov_any HM.out xn (fstN n) xr (lvlN n) (.slice ma ml mc) (.slice sa sl sc) l2 ⟨f0, f1⟩ w
      rw [hd] at HR ⊢
      clear hd hx hn f0 f1 l1 l2
      have c0 := cell_blk_some OX.out (i := 0) rfl
      have c1 := cell_blk_some OX.out (i := 1) rfl
      have c2 := cell_blk_some OX.out (i := 2) rfl
      have c3 := cell_blk_some OX.out (i := 3) rfl
      have c4 := cell_blk_some OX.out (i := 4) rfl
      have c5 := cell_blk_some OX.out (i := 5) rfl
      go_wp2_with (refine wpList_load_rowg rfl 68 _ rfl _ rfl 68 _ _ _ ho Tryd.underlying68 rfl (by rw [HSZ.out]; kernel_rfl) ?_)
      refine (HC.out _).mono ?_
      rintro e w5 ⟨rfl, hb5⟩
      have HB5 := Lib.hid (below_call HB3.out hb5 (Nat.le_refl _))
      clear hb5
      go_wp2_with fail
      go_ret
      exact ⟨by rw [HR.out]; rfl, HB5.out⟩
    · have hd : decide (n ∈ metasN) = false := decide_eq_false hn
      rw [hd] at HR ⊢
      clear hd hx hn
      go_wp2_with fail
      go_ret
      exact ⟨by rw [HR.out]; rfl, HB3.out⟩
end Go.Proofs.YtklamgijikcnaaaDoor

namespace Go.Proofs.YtklamgijikcnaaaDoor
open Go.RowKit

set_option maxHeartbeats 2000000 in
set_option maxRecDepth 100000 in
theorem rchild_any {n : Int} (hn : n ∈ metasN) (s : Nat) (hs : s < 16) (nn r : Int) (mv sv : Value) (w : World) :
    Calls Tryd.prog 64 #[.agg #[.int .i64 nn, .int .i64 (lvlN n), .int .i64 (fstN n), .int .i64 r, mv, sv], .int .i64 s] w fun e w' => e = .returned (.tuple #[.int .i64 ((childN n s).getD 0), .bool (childN n s).isSome]) ∧ Below w.heap.size w w' := by
  obtain ⟨f0, f1, h2, h3⟩ := meta_fst n hn
  obtain ⟨hneg, _⟩ := metasN_neg n hn
  have hch : childN n s = if 600 ≤ fstN n + s * wideN (lvlN n - 1) then none else if lvlN n = 1 then some (fstN n + s * wideN (lvlN n - 1)) else some (-(fstN n + s * wideN (lvlN n - 1)) - ((lvlN n : Int) - 2)) := by
    unfold childN
    rw [if_neg (by omega)]
  generalize lvlN n = l at *
  generalize fstN n = f at *
  have i0 : ∀ w, (Instr.index 123 (.agg #[.int .i64 0, .int .i64 1, .int .i64 16, .int .i64 256]) (.int .i64 l)).run Tryd.prog w = .ok (.int .i64 (wideN (l - 1))) w := by
    have : l = 1 ∨ l = 2 ∨ l = 3 := by omega
    rcases this with rfl | rfl | rfl <;> exact fun _ => by kernel_rfl
  have hq := wideN_bd (l - 1)
  have hw4 : (s : Int) * wideN (l - 1) ≤ 15 * 4096 := Int.mul_le_mul (by omega) hq.2 (by omega) (by omega)
  have hw0 : 0 ≤ (s : Int) * wideN (l - 1) := Int.mul_nonneg (by omega) (by omega)
  have hcase : ∃ c b, (childN n s).getD 0 = c ∧ (childN n s).isSome = b ∧ (600 ≤ f + (s : Int) * wideN (l - 1) ∧ c = 0 ∧ b = false ∨ f + (s : Int) * wideN (l - 1) < 600 ∧ l = 1 ∧ c = f + (s : Int) * wideN (l - 1) ∧ b = true ∨ f + (s : Int) * wideN (l - 1) < 600 ∧ 2 ≤ l ∧ c = -(f + (s : Int) * wideN (l - 1)) - ((l : Int) - 2) ∧ b = true) := by
    rw [hch]
    by_cases h6 : 600 ≤ f + (s : Int) * wideN (l - 1)
    · rw [if_pos h6]; exact ⟨_, _, rfl, rfl, .inl ⟨h6, rfl, rfl⟩⟩
    · rw [if_neg h6]
      by_cases hl : l = 1
      · rw [if_pos hl]; exact ⟨_, _, rfl, rfl, .inr (.inl ⟨by omega, hl, rfl, rfl⟩)⟩
      · rw [if_neg hl]; exact ⟨_, _, rfl, rfl, .inr (.inr ⟨by omega, by omega, rfl, rfl⟩)⟩
  obtain ⟨c, b, hc1, hc2, hcase⟩ := hcase
  rw [hc1, hc2]
  generalize wideN (l - 1) = q at *
  have HC := Lib.hid hcase
  have HB := Lib.hid (show Below w.heap.size w (w.alloc (.cells #[.int .i64 nn, .int .i64 l, .int .i64 f, .int .i64 r, mv, sv] 34)) from (Below.refl _ w).alloc (Nat.le_refl _) _)
  clear hch hn hq hc1 hc2 hcase
  rcases HC.out with ⟨h6, rfl, rfl⟩ | ⟨h6, rfl, rfl, rfl⟩ | ⟨h6, hl, rfl, rfl⟩
  · clear HC
    go_enter Tryd.func64, Tryd.ntmps64
    go_wp2_with fail
    all_goals
      go_ret2
      exact ⟨rfl, HB.out⟩
  · clear HC
    have h6' : decide (600 ≤ f + (s : Int) * q) = false := by simpa using h6
    rw [show ((1 : Nat) : Int) = 1 from rfl] at i0 HB
    go_enter Tryd.func64, Tryd.ntmps64
    go_wp2_with fail
    all_goals
      go_ret2
      exact ⟨rfl, HB.out⟩
  · clear HC
    have h6' : decide (600 ≤ f + (s : Int) * q) = false := by simpa using h6
    have hl1 : ((l : Int) == 1) = false := by simp; omega
    go_enter Tryd.func64, Tryd.ntmps64
    go_wp2_with fail
    all_goals
      go_ret2
      exact ⟨rfl, HB.out⟩
end Go.Proofs.YtklamgijikcnaaaDoor

namespace Go.Proofs.YtklamgijikcnaaaDoor
open Go.RowKit

set_option maxHeartbeats 2000000 in
set_option maxRecDepth 100000 in
theorem rfour_any (n : Int) (h0 : 0 ≤ n) (h1 : n < 4294967296) (w : World) :
    Calls Tryd.prog 85 #[.int .i64 n] w fun e w' => ∃ v, e = .returned v ∧ OwnB w' w.heap.size v (fourN n) ∧ Below w.heap.size w w' := by
  go_enter Tryd.func85, Tryd.ntmps85
  go_wp2_with fail
  go_ret
  refine ⟨_, rfl, ?_, (Below.refl _ w).alloc (Nat.le_refl _) _⟩
  exact own_block (xs := u8s (fourN n)) (n := 4) (k := 1) (E := 5) (blk_new rfl) rfl rfl (Nat.le_refl _) (by decide)
set_option maxHeartbeats 2000000 in
set_option maxRecDepth 100000 in
/-- The reference's block of pointers. -/
theorem rblk_any (ws : List Int) (hl : ws.length = 16) (hb : ∀ x ∈ ws, 0 ≤ x ∧ x < 4294967296) (w : World) :
    Calls Tryd.prog 66 #[.agg (u32s ws).toArray] w fun e w' => ∃ v, e = .returned v ∧ RowB w' v (bytesN ws) ∧ Below w.heap.size w w' := by
  have HBD := Lib.hid hb; have HL := Lib.hid hl
  have hat : ∀ s : Nat, s < 16 → ∃ x, ws[s]? = some x ∧ (u32s ws).toArray[s]? = some (.int .u32 x) := fun s hs => by
    refine ⟨_, List.getElem?_eq_getElem (by omega), ?_⟩
    unfold u32s
    rw [List.getElem?_toArray, List.getElem?_map, List.getElem?_eq_getElem (by omega)]
    rfl
  have HAT := Lib.hid hat
  clear hl hb hat
  generalize hcs : (u32s ws).toArray = cs at *
  clear hcs
  have ST : Hid ((w.alloc (.cells cs 97)).heap[w.heap.size]? = some (.cells cs 97 (0, 0)) ∧ OwnB (w.alloc (.cells cs 97)) (w.heap.size + 1) (.slice none 0 0) (bytesN (ws.take 0)) ∧ Below w.heap.size w (w.alloc (.cells cs 97))) := Lib.hid ⟨blk_new rfl, OwnB.nil _ _, (Below.refl _ w).alloc (Nat.le_refl _) _⟩
  go_enter Tryd.func66, Tryd.ntmps66
  go_wp2_with fail
  generalize w.alloc (.cells cs 97) = w0 at ST ⊢
  go_loopw [3, 4] (fun v idx wr => ∃ s : Nat, s ≤ 16 ∧ idx = .int .i64 s ∧ wr.heap[w.heap.size]? = some (.cells cs 97 (0, 0)) ∧ OwnB wr (w.heap.size + 1) v (bytesN (ws.take s)) ∧ Below w.heap.size w wr) (fun _ idx _ => 16 - (RowKit.intOf idx).toNat)
  case atStart => exact ⟨0, by omega, rfl, ST.out⟩
  case round =>
    obtain ⟨s, hs, rfl, hbx, how, hbe⟩ := hrel
    clear ST
    obtain ⟨a0, c0, rfl⟩ := how.shape
    have HX := Lib.hid hbx; have HO := Lib.hid how; have HE := Lib.hid hbe
    clear hbx how hbe
    by_cases hs9 : s < 16
    · obtain ⟨x, hx, hcx⟩ := HAT.out s hs9
      obtain ⟨hx0, hx1⟩ := HBD.out x (List.mem_of_getElem? hx)
      have HXS := Lib.hid hx
      have c1 := cell_blk_some HX.out hcx
      have hlb : (bytesN (ws.take s)).length ≤ 1000 := by rw [bytesN_length, List.length_take]; omega
      have HLB := Lib.hid hlb
      have HF := Lib.hid (rfour_any x hx0 hx1 wr)
      have b0 : (0 : Int) ≤ (s : Int) := by omega
      have b1 : (s : Int) < 16 := by omega
      clear hx hcx hlb
      go_wp2_with fail
      refine HF.out.mono ?_
      rintro e w1 ⟨v1, rfl, ho1, hb1⟩
      obtain ⟨a1, c1', rfl⟩ := ho1.shape
      have HO1 := Lib.hid ho1; have HB1 := Lib.hid hb1
      have HO2 : Hid (OwnB w1 (w.heap.size + 1) (.slice a0 (bytesN (ws.take s)).length c0) (bytesN (ws.take s))) := Lib.hid (own_frame HO.out (S := fun _ => False) (Fr.below hb1) fun _ _ => id)
      have hsz : w.heap.size + 1 ≤ w1.heap.size := by have := blk_lt HX.out; have := hb1.size; omega
      clear ho1 hb1 HF HO c1
      go_wp2_with (refine wpList_append_g (by rfl) (.tmp 9) (.tmp 14) (by rfl) elByte (by rfl) HO2.out (by rfl) (SrcG.of_own HO1.out (u8s_one _)) (by unfold maxLen; have := HLB.out; simp [fourN]; omega) (by have := HLB.out; simp [fourN]; omega) hsz ?_)
      intro v2 w2 ho2 hf2 hv2
      have ho3 : OwnB w2 (w.heap.size + 1) v2 (bytesN (ws.take (s + 1))) := by
        rw [take_at HXS.out, bytesN_snoc]
        unfold OwnB
        rw [List.length_append, show u8s (bytesN (ws.take s) ++ fourN x) = u8s (bytesN (ws.take s)) ++ u8s (fourN x) from List.map_append]
        exact ho2
      have hx3 : w2.heap[w.heap.size]? = some (.cells cs 97 (0, 0)) := (hf2.block _ (by omega) fun e => by have := (HO2.out.lt _ e).1; omega).trans ((HB1.out.block _ (blk_lt HX.out)).trans HX.out)
      have hb3 : Below w.heap.size w w2 := (below_call HE.out HB1.out (Nat.le_refl _)).trans (hf2.toBelow (B := w.heap.size) (by omega) fun g hg => by have := (HO2.out.lt _ hg).1; omega)
      have H3 := Lib.hid ho3; have X3 := Lib.hid hx3; have B3 := Lib.hid hb3
      clear ho2 hf2 hv2 ho3 hx3 hb3 HO1 HO2 HB1
      go_wp2_with fail
      go_roundw
      case rel => exact ⟨s + 1, by omega, by go_num, X3.out, H3.out, B3.out⟩
      case measure => simp only [RowKit.intOf]; omega
    · obtain rfl : s = 16 := by omega
      have hws : ws.take 16 = ws := by rw [← HL.out]; exact List.take_length
      have ho := HO.out
      rw [hws] at ho ⊢
      have hlc : (bytesN ws).length ≤ c0 := by
        rcases ho.2 with ⟨h1, h2⟩ | ⟨g, cap, cur, h1, _, _, h2, _⟩
        · injection h1 with _ _ h3; omega
        · injection h1 with _ _ h3; omega
      have HRB := Lib.hid (ho.rowB (bytesN_bd ws) hlc)
      clear ho hlc hws HO
      go_wp2_with fail
      go_ret
      exact ⟨_, rfl, HRB.out, HE.out⟩
end Go.Proofs.YtklamgijikcnaaaDoor

namespace Go.Proofs.YtklamgijikcnaaaDoor
open Go.RowKit

theorem RowB.conv {w : World} {v : Value} {l : List Int} (h : RowB w v l) : (convert 57 9 v).run Tryd.prog w = .ok (.string (strOfNums l)) w := by
  obtain ⟨a, c, rfl, hc, hx, hr⟩ := h
  by_cases h0 : 0 < l.length
  · obtain ⟨g, o, rfl, _, hcell⟩ := hr h0
    exact run_convert_bytes_arg (P := Tryd.prog) w 57 5 Tryd.underlying57 Tryd.underlying5 g o l.length c l rfl (fun i hi => by
      refine hcell i _ ?_
      rw [List.getD_eq_getElem?_getD, List.getElem?_eq_getElem hi]; rfl) _ Tryd.underlying9
  · obtain rfl : l = [] := List.eq_nil_of_length_eq_zero (by omega)
    cases a with
    | none =>
      rw [run_convert_bytes_string w 57 9 5 _ _ c Tryd.underlying57 Tryd.underlying5 Tryd.underlying9]
      simp [Conv.bytesToString, strOfNums] <;> rfl
    | some ad =>
      rw [run_convert_bytes_string w 57 9 5 _ _ c Tryd.underlying57 Tryd.underlying5 Tryd.underlying9]
      simp [Conv.bytesToString, loadCells, strOfNums] <;> rfl
/-- The pointers of a block of pointers, of any addresses. -/
def ptrsA (a : Int → Int) (n : Int) : List Int := (List.range 16).map fun s => match childN n s with | some c => a c | none => 0
theorem ptrsA_at (a : Int → Int) (n : Int) {s : Nat} (h : s < 16) : (ptrsA a n)[s]? = some (match childN n s with | some c => a c | none => 0) := by
  unfold ptrsA
  rw [List.getElem?_map, List.getElem?_range h]
  rfl
structure RbSt (w : World) (cs xs : Array Value) (qb pb : Nat) (ws : List Int) (s : Nat) (wr : World) : Prop where
  mb : wr.heap[w.heap.size]? = some (.cells cs 68 (0, 0))
  xb : wr.heap[qb]? = some (.cells xs 34 (0, 0))
  pb : wr.heap[pb]? = some (.cells (fill (u32s ws) zeros16 s).toArray 97 (0, 0))
  bel : Below w.heap.size w wr
theorem RbSt.below {w wr w' : World} {cs xs : Array Value} {q p s : Nat} {ws : List Int} (h : RbSt w cs xs q p ws s wr) (hb : Below wr.heap.size wr w') : RbSt w cs xs q p ws s w' :=
  ⟨(hb.block _ (blk_lt h.mb)).trans h.mb, (hb.block _ (blk_lt h.xb)).trans h.xb, (hb.block _ (blk_lt h.pb)).trans h.pb, below_call h.bel hb (Nat.le_refl _)⟩
def NoBlock (w : World) (e : Ending) (w' : World) : Prop := e = .returned (.tuple #[.string ⟨#[]⟩, .int .i64 2]) ∧ Below w.heap.size w w'
set_option maxHeartbeats 2000000 in
set_option maxRecDepth 100000 in
theorem rblock_none {cs : Array Value} {D : List Int} {v : Value} {n : Int} {w : World} (hm : IsMap cs D v) (hn : 0 ≤ n ∨ rhasN D n = false) :
    Calls Tryd.prog 47 #[.agg cs, .int .i64 n] w (NoBlock w) := by
  have HB1 := Lib.hid (show Below w.heap.size w (w.alloc (.cells cs 68)) from (Below.refl _ w).alloc (Nat.le_refl _) _)
  have OB : Hid ((w.alloc (.cells cs 68)).heap[w.heap.size]? = some (.cells cs 68 (0, 0))) := Lib.hid (blk_new rfl)
  have HSZ := Lib.hid hm.size
  by_cases h0 : 0 ≤ n
  · clear hm hn
    go_enter Tryd.func47, Tryd.ntmps47
    go_wp2_with fail
    go_ret2
    exact ⟨rfl, HB1.out⟩
  · have hr := hn.resolve_left h0
    have HH := Lib.hid (rhas_any (w := w.alloc (.cells cs 68)) n hm)
    rw [hr] at HH
    have ho := OB.out
    clear hm hn hr
    go_enter Tryd.func47, Tryd.ntmps47
    go_wp2_with (refine wpList_load_rowg rfl 68 _ rfl _ rfl 68 _ _ _ ho Tryd.underlying68 rfl (by rw [HSZ.out]; kernel_rfl) ?_)
    refine HH.out.mono ?_
    rintro e w1 ⟨rfl, hb1⟩
    have HB2 := Lib.hid (below_call HB1.out hb1 (Nat.le_refl _))
    clear hb1 ho HH
    go_wp2_with fail
    go_ret2
    exact ⟨rfl, HB2.out⟩
set_option maxHeartbeats 4000000 in
set_option maxRecDepth 100000 in
theorem rblock_any {cs : Array Value} {D : List Int} {v : Value} {L : List (Int × Int)} {n : Int} {w : World} (hm : IsMap cs D v) (hv : PRow w v L) (hl : L.length ≤ 100000) (hn : n < 0) (hh : rhasN D n = true) (hb : ∀ c, 0 ≤ rgetN D L c ∧ rgetN D L c < 4096) :
    Calls Tryd.prog 47 #[.agg cs, .int .i64 n] w fun e w' => e = .returned (.tuple #[.string (strOfNums (bytesN (ptrsA (rgetN D L) n))), .int .i64 0]) ∧ Below w.heap.size w w' := by
  have hb1 : Below w.heap.size w (w.alloc (.cells cs 68)) := (Below.refl _ w).alloc (Nat.le_refl _) _
  have HB1 := Lib.hid hb1
  have OB : Hid ((w.alloc (.cells cs 68)).heap[w.heap.size]? = some (.cells cs 68 (0, 0))) := Lib.hid (blk_new rfl)
  have HSZ := Lib.hid hm.size
  have hmt : n ∈ metasN := by
    unfold rhasN at hh
    rw [if_neg (by omega), Bool.and_eq_true] at hh
    exact of_decide_eq_true hh.1
  have HH := Lib.hid (rhas_any (w := w.alloc (.cells cs 68)) n hm)
  rw [hh] at HH
  have HMT := Lib.hid hmt; have HM := Lib.hid hm; have HBD := Lib.hid hb
  have HG : Hid (∀ (w' : World) (c : Int), Below w.heap.size w w' → Calls Tryd.prog 48 #[.agg cs, .int .i64 c] w' fun e w2 => e = .returned (.int .i64 (rgetN D L c)) ∧ Below w'.heap.size w' w2) := Lib.hid fun w' c hb' => rget_any c HM.out (hv.below hb') hl
  have ho := OB.out
  clear hm hv hl hh hb hmt hb1
  generalize rgetN D L = G at *
  have hd : decide (0 ≤ n) = false := decide_eq_false (by omega)
  go_enter Tryd.func47, Tryd.ntmps47
  go_wp2_with (refine wpList_load_rowg rfl 68 _ rfl _ rfl 68 _ _ _ ho Tryd.underlying68 rfl (by rw [HSZ.out]; kernel_rfl) ?_)
  refine HH.out.mono ?_
  rintro e w1 ⟨rfl, hb1⟩
  have HB2 := Lib.hid (below_call HB1.out hb1 (Nat.le_refl _))
  have OB2 := Lib.hid ((hb1.block _ (blk_lt OB.out)).trans OB.out)
  clear hb1 ho HH HB1 OB
  generalize w.alloc (.cells cs 68) = w0 at *
  have HF := Lib.hid (rfind_neg (n := n) hn w1)
  go_wp2_with fail
  refine HF.out.mono ?_
  rintro e w2 ⟨xn, xl, xf, xr, ma, ml, mc, sa, sl, sc, rfl, hx, hb2⟩
  obtain ⟨rfl, rfl⟩ := hx HMT.out
  have hbx := hb2
  have HB3 := Lib.hid (below_call HB2.out hb2 (Nat.le_refl _))
  have OB3 := Lib.hid ((hb2.block _ (blk_lt OB2.out)).trans OB2.out)
  clear hb2 hbx HF HB2 OB2 hx
  have HCH := Lib.hid fun s hs w => rchild_any HMT.out s hs xn xr (.slice ma ml mc) (.slice sa sl sc) w
  have hlv : Hid (∃ l f, lvlN n = l ∧ fstN n = f) := Lib.hid ⟨_, _, rfl, rfl⟩
  have ST : Hid (RbSt w cs #[.int .i64 xn, .int .i64 (lvlN n), .int .i64 (fstN n), .int .i64 xr, .slice ma ml mc, .slice sa sl sc] w2.heap.size (w2.heap.size + 1) (ptrsA G n) 0 ((w2.alloc (.cells #[.int .i64 xn, .int .i64 (lvlN n), .int .i64 (fstN n), .int .i64 xr, .slice ma ml mc, .slice sa sl sc] 34)).alloc (.cells #[.int .u32 0, .int .u32 0, .int .u32 0, .int .u32 0, .int .u32 0, .int .u32 0, .int .u32 0, .int .u32 0, .int .u32 0, .int .u32 0, .int .u32 0, .int .u32 0, .int .u32 0, .int .u32 0, .int .u32 0, .int .u32 0] 97))) :=
    Lib.hid ⟨blk_old (blk_old OB3.out), blk_old (blk_new rfl), by rw [fill_zero]; exact blk_new (by simp), (HB3.out.alloc HB3.out.size _).alloc (by have := HB3.out.size; simp; omega) _⟩
  go_wp2_with fail
  generalize ((w2.alloc (.cells #[.int .i64 xn, .int .i64 (lvlN n), .int .i64 (fstN n), .int .i64 xr, .slice ma ml mc, .slice sa sl sc] 34)).alloc (.cells #[.int .u32 0, .int .u32 0, .int .u32 0, .int .u32 0, .int .u32 0, .int .u32 0, .int .u32 0, .int .u32 0, .int .u32 0, .int .u32 0, .int .u32 0, .int .u32 0, .int .u32 0, .int .u32 0, .int .u32 0, .int .u32 0] 97)) = w3 at ST ⊢
  obtain ⟨qb, hqb⟩ : ∃ qb, qb = w2.heap.size := ⟨_, rfl⟩
  rw [← hqb] at ST ⊢
  have HQ : Hid (w.heap.size < qb) := Lib.hid (by rw [hqb]; exact blk_lt OB3.out)
  clear hqb hlv
  go_loopw [9] (fun idx wr => ∃ s : Nat, s ≤ 16 ∧ idx = .int .i64 s ∧ RbSt w cs #[.int .i64 xn, .int .i64 (lvlN n), .int .i64 (fstN n), .int .i64 xr, .slice ma ml mc, .slice sa sl sc] qb (qb + 1) (ptrsA G n) s wr) (fun idx _ => 16 - (RowKit.intOf idx).toNat)
  case atStart => exact ⟨0, by omega, rfl, ST.out⟩
  case round =>
    obtain ⟨s, hs, rfl, hst⟩ := hrel
    clear ST
    have HS := Lib.hid hst
    clear hst
    by_cases hs9 : s < 16
    · have HC := Lib.hid (HCH.out s hs9 wr)
      have hat := ptrsA_at G n hs9
      have b0 : (0 : Int) ≤ (s : Int) := by omega
      have b1 : (s : Int) < 16 := by omega
      obtain ⟨o, ho⟩ : ∃ o, o = childN n s := ⟨_, rfl⟩
      rw [← ho] at HC hat
      clear ho
      have k0 := cell_blk_some HS.out.xb (i := 0) rfl
      have k1 := cell_blk_some HS.out.xb (i := 1) rfl
      have k2 := cell_blk_some HS.out.xb (i := 2) rfl
      have k3 := cell_blk_some HS.out.xb (i := 3) rfl
      have k4 := cell_blk_some HS.out.xb (i := 4) rfl
      have k5 := cell_blk_some HS.out.xb (i := 5) rfl
      have hfl : (fill (u32s (ptrsA G n)) zeros16 s).length = 16 := fill_length _ _ _ rfl
      obtain ⟨u, hu⟩ : ∃ u, (fill (u32s (ptrsA G n)) zeros16 s).toArray[s]? = some u := ⟨_, Array.getElem?_eq_getElem (by rw [List.size_toArray, hfl]; exact hs9)⟩
      have HU := Lib.hid hu
      clear hu hfl
      cases o with
      | none =>
        have S1 : Hid (RbSt w cs #[.int .i64 xn, .int .i64 (lvlN n), .int .i64 (fstN n), .int .i64 xr, .slice ma ml mc, .slice sa sl sc] qb (qb + 1) (ptrsA G n) (s + 1) wr) := Lib.hid (by
          have h1 := HS.out.pb
          refine ⟨HS.out.mb, HS.out.xb, ?_, HS.out.bel⟩
          rw [fill_same (u := .int .u32 0) (by unfold u32s; rw [List.getElem?_map, hat]; rfl) (by unfold zeros16; rw [List.getElem?_replicate, if_pos hs9])]
          exact h1)
        clear hat HS
        go_wp2_with fail
        refine HC.out.mono ?_
        rintro e w4 ⟨rfl, hb4⟩
        have S2 := Lib.hid (S1.out.below hb4)
        clear HC hb4 S1
        go_wp2_with fail
        go_roundw
        case rel => exact ⟨s + 1, by omega, by go_num, S2.out⟩
        case measure => simp only [RowKit.intOf]; omega
      | some ch =>
        obtain ⟨a, ha⟩ : ∃ a, a = G ch := ⟨_, rfl⟩
        have hab := HBD.out ch
        rw [← ha] at hab
        have hwrap : IntKind.u32.wrap a = a := by rw [show IntKind.u32.wrap a = a % 4294967296 by simp [IntKind.wrap, IntKind.bits, IntKind.signed]]; omega
        have HA := Lib.hid ha; have HAT := Lib.hid hat
        clear hat ha hab
        go_wp2_with fail
        refine HC.out.mono ?_
        rintro e w4 ⟨rfl, hb4⟩
        have S4 := Lib.hid (HS.out.below hb4)
        clear HC hb4 HS k0 k1 k2 k3 k4 k5
        have hGc := HG.out w4 ch S4.out.bel
        rw [← HA.out] at hGc
        have HGC := Lib.hid hGc
        have ho := S4.out.mb
        clear hGc
        go_wp2_with (refine wpList_load_row rfl 68 _ rfl _ rfl 68 _ _ _ ho Tryd.underlying68 rfl (by rw [HSZ.out]; kernel_rfl) ?_)
        refine HGC.out.mono ?_
        rintro e w5 ⟨rfl, hb5⟩
        have S5 := Lib.hid (S4.out.below hb5)
        have hcell := cell_blk_some S5.out.pb HU.out
        have hfz := free_blk (i := s) S5.out.pb
        clear hb5 HGC ho S4
        go_wp2_with fail
        go_roundw
        case rel =>
          have hq := HQ.out
          refine ⟨s + 1, by omega, by go_num, blk_set_other S5.out.mb (fun e => by have : w.heap.size = qb + 1 := e; omega) _, blk_set_other S5.out.xb (fun e => by have : qb = qb + 1 := e; omega) _, ?_, S5.out.bel.setCell (show w.heap.size ≤ qb + 1 by omega) _⟩
          have h1 := blk_set (i := s) S5.out.pb (.int .u32 a)
          rw [fill_set (u32s (ptrsA G n)) zeros16 s rfl (by show s < 16; exact hs9) _ (by unfold u32s; rw [List.getElem?_map, HAT.out, HA.out]; rfl)] at h1
          exact h1
        case measure => simp only [RowKit.intOf]; omega
    · obtain rfl : s = 16 := by omega
      have h2 := HS.out.pb
      rw [show fill (u32s (ptrsA G n)) zeros16 16 = u32s (ptrsA G n) from fill_all (u32s (ptrsA G n)) zeros16 rfl] at h2
      have H2 := Lib.hid h2
      have HB := Lib.hid (rblk_any (ptrsA G n) (by unfold ptrsA; simp) (fun x hx => by
        unfold ptrsA at hx
        obtain ⟨s, _, rfl⟩ := List.mem_map.1 hx
        cases childN n s with
        | none => exact ⟨Int.le_refl _, by show (0 : Int) < _; omega⟩
        | some c => have := HBD.out c; exact ⟨this.1, by show G c < _; omega⟩) wr)
      have HBE := Lib.hid HS.out.bel
      clear h2 HS
      go_wp2_with (refine wpList_load_row rfl 97 _ rfl _ rfl 97 _ _ _ H2.out Tryd.underlying97 rfl (by kernel_rfl) ?_)
      refine HB.out.mono ?_
      rintro e w6 ⟨v6, rfl, hr, hb⟩
      have hcv := hr.conv
      obtain ⟨a6, c6, rfl⟩ := hr.shape
      have RES := Lib.hid (below_call HBE.out hb (Nat.le_refl _))
      clear hr hb HB
      go_wp2_with fail
      go_ret2
      exact ⟨rfl, RES.out⟩
end Go.Proofs.YtklamgijikcnaaaDoor

namespace Go.Proofs.YtklamgijikcnaaaDoor
open Go.RowKit

/-- The blocks of pointers that are there, in order. -/
def rmetasN (D : List Int) : List Int := metasN.filter fun n => covN D (lvlN n) (fstN n)
theorem allN_at {j : Nat} {r : MetaR} (h : allN[j]? = some r) : metasN[j]? = some r.n ∧ r.lvl = (lvlN r.n : Int) ∧ r.first = fstN r.n ∧ r.n ∈ metasN ∧ r.ms.length ≤ 3 ∧ r.ss.length ≤ 3 := by
  have h1 : metasN[j]? = some r.n := by rw [← allN_n, List.getElem?_map, h]; rfl
  have h2 : ∀ r ∈ allN, r.lvl = (lvlN r.n : Int) ∧ r.first = fstN r.n := by decide +kernel
  obtain ⟨h3, h4⟩ := h2 r (List.mem_of_getElem? h)
  obtain ⟨_, _, h5, h6⟩ := allN_first r (List.mem_of_getElem? h)
  exact ⟨h1, h3, h4, List.mem_of_getElem? h1, h5, h6⟩
set_option maxHeartbeats 4000000 in
set_option maxRecDepth 100000 in
theorem rmetas_any {cs : Array Value} {D : List Int} {v : Value} {w : World} (hm : IsMap cs D v) :
    Calls Tryd.prog 43 #[.agg cs] w fun e w' => ∃ v', e = .returned v' ∧ RowI w' w.heap.size v' (rmetasN D) ∧ Below w.heap.size w w' := by
  have HB0 := Lib.hid (show Below w.heap.size w (w.alloc (.cells cs 68)) from (Below.refl _ w).alloc (Nat.le_refl _) _)
  have OB : Hid ((w.alloc (.cells cs 68)).heap[w.heap.size]? = some (.cells cs 68 (0, 0))) := Lib.hid (blk_new rfl)
  have HSZ := Lib.hid hm.size
  have HM := Lib.hid hm
  have HA := Lib.hid (all_any (w.alloc (.cells cs 68)))
  clear hm
  go_enter Tryd.func43, Tryd.ntmps43
  go_wp2_with fail
  generalize w.alloc (.cells cs 68) = w0 at *
  refine HA.out.mono ?_
  rintro e w1 ⟨v1, rfl, hms, hb1⟩
  have HB1 := Lib.hid (below_call HB0.out hb1 (Nat.le_refl _))
  have OB1 := Lib.hid ((hb1.block _ (blk_lt OB.out)).trans OB.out)
  obtain ⟨g, c, rfl, hlc, _, hgl, hcell⟩ := hms.cells (by rw [allN_len]; decide)
  rw [allN_len] at hlc
  have HC := Lib.hid hcell
  clear hb1 hms hcell HA HB0 OB
  rw [allN_len]
  go_wp2_with fail
  go_loopw [3, 9] (fun u idx wr => ∃ j : Nat, j ≤ 42 ∧ idx = .int .i64 j ∧ OwnI wr w1.heap.size u ((metasN.take j).filter fun n => covN D (lvlN n) (fstN n)) ∧ Below w1.heap.size w1 wr) (fun _ idx _ => 42 - (RowKit.intOf idx).toNat)
  case atStart => exact ⟨0, by omega, rfl, IntsAt.nil _ _ _, Below.refl _ _⟩
  case round =>
    obtain ⟨j, hj, rfl, hown, hbe⟩ := hrel
    obtain ⟨ua, uc, rfl⟩ := hown.shape
    have HO := Lib.hid hown; have HE := Lib.hid hbe
    clear hown hbe
    by_cases hj9 : j < 42
    · obtain ⟨r, hr⟩ : ∃ r, allN[j]? = some r := ⟨_, List.getElem?_eq_getElem (by rw [allN_len]; exact hj9)⟩
      obtain ⟨hrn, hrl, hrf, hrm, _, _⟩ := allN_at hr
      obtain ⟨x, hx, hc⟩ := HC.out j r hr
      obtain ⟨ma, mc, em⟩ := hx.ms.shape
      obtain ⟨sa, sc, es⟩ := hx.ss.shape
      obtain ⟨T, f, hT, hF, hG⟩ := below_class wr.heap.size wr
      have hbt : ∀ t, Below w1.heap.size w1 (f t) := fun t => below_call HE.out (hF t) (Nat.le_refl _)
      have hct : ∀ t (i : Nat) u, i < 6 → x.flat[i]? = some u → (f t).cell? ⟨g, j * 6 + i, none⟩ = some u := fun t i u hi hu => ((hbt t).cell (p := ⟨g, j * 6 + i, none⟩) hgl).trans (hc i u hi hu)
      have k0 : ∀ t, (f t).cell? ⟨g, j * 6, none⟩ = some (.int .i64 r.n) := fun t => hct t 0 _ (by omega) (by rw [← hx.n]; rfl)
      have k1 : ∀ t, (f t).cell? ⟨g, j * 6 + 1, none⟩ = some (.int .i64 (lvlN r.n)) := fun t => hct t 1 _ (by omega) (by rw [← hrl, ← hx.lvl]; rfl)
      have k2 : ∀ t, (f t).cell? ⟨g, j * 6 + 2, none⟩ = some (.int .i64 (fstN r.n)) := fun t => hct t 2 _ (by omega) (by rw [← hrf, ← hx.first]; rfl)
      have k3 : ∀ t, (f t).cell? ⟨g, j * 6 + 3, none⟩ = some (.int .i64 r.root) := fun t => hct t 3 _ (by omega) (by rw [← hx.root]; rfl)
      have k4 : ∀ t, (f t).cell? ⟨g, j * 6 + 4, none⟩ = some (.slice ma r.ms.length mc) := fun t => hct t 4 _ (by omega) (by rw [← em]; rfl)
      have k5 : ∀ t, (f t).cell? ⟨g, j * 6 + 5, none⟩ = some (.slice sa r.ss.length sc) := fun t => hct t 5 _ (by omega) (by rw [← es]; rfl)
      have K6 : Hid (∀ w', (∃ t, w' = f t) → w'.heap[w.heap.size]? = some (.cells cs 68 (0, 0))) := Lib.hid fun w' hw => by
        obtain ⟨t, rfl⟩ := hw
        exact ((hbt t).block _ (blk_lt OB1.out)).trans OB1.out
      obtain ⟨f0, f1, _, l2⟩ := meta_fst r.n hrm
      have HCV := Lib.hid fun w => rcov_any HM.out r.n (fstN r.n) r.root (lvlN r.n) (.slice ma r.ms.length mc) (.slice sa r.ss.length sc) l2 ⟨f0, f1⟩ w
      have b0 : (0 : Int) ≤ (j : Int) := by omega
      have b1 : (j : Int) < 42 := by omega
      have C0 := hG _ (below_drewN (Below.refl _ wr) 1)
      have HF := Lib.hid hF; have HG := Lib.hid hG; have HRN := Lib.hid hrn
      clear hct hbt hc hx em es hrl hrf hrm hr f0 f1 l2 hF hG hrn
      go_wp2_with fail
      refine wp_region_class (C := fun w' => ∃ t, w' = f t) (by kernel_rfl) (by kernel_rfl) C0 ?_
      repeat (first
        | (go_big_quiet_step ((go_at_call 65; exact (HCV.out _).mono fun e w'' ⟨he, hb⟩ => ⟨he, HG.out _ (below_call (HF.out _) hb (Nat.le_refl _))⟩)))
        | (go_big_quiet_want; refine quiet_load_row _ _ rfl _ rfl _ _ _ _ K6.out Tryd.underlying68 rfl (by rw [HSZ.out]; kernel_rfl) ?_; go_big_quiet_on; simp only [Act.put, List.setIfInBounds_toArray, List.set_cons_succ, List.set_cons_zero]))
      refine wpQuiet_nil ?_
      rintro w9 ⟨t, rfl⟩
      have h9 := HF.out t
      have q0 := k0 t
      have HB9 := Lib.hid h9
      clear k0 k1 k2 k3 k4 k5 K6 HCV C0 HF HG h9
      generalize f t = w9 at q0 HB9 ⊢
      clear t hT f T
      have E9 := Lib.hid (below_call HE.out HB9.out (Nat.le_refl _))
      have O9 := Lib.hid (HO.out.below HB9.out)
      by_cases hcv : covN D (lvlN r.n) (fstN r.n) = true
      · have hfl : (metasN.take (j + 1)).filter (fun n => covN D (lvlN n) (fstN n)) = (metasN.take j).filter (fun n => covN D (lvlN n) (fstN n)) ++ [r.n] := by
          rw [take_at HRN.out, List.filter_append]; simp [hcv]
        have hll : ((metasN.take j).filter (fun n => covN D (lvlN n) (fstN n))).length ≤ 42 := Nat.le_trans (List.length_filter_le _ _) (by rw [List.length_take]; omega)
        have HFL := Lib.hid hfl
        rw [hcv]
        clear hfl hcv
        generalize hL : (metasN.take j).filter (fun n => covN D (lvlN n) (fstN n)) = L at *
        clear hL
        have hnew : ∀ (i : Nat) y, ([r.n] : List Int)[i]? = some y → (w9.alloc (.cells #[.int .i64 r.n] 3)).cell? ⟨w9.heap.size, 0 + i, none⟩ = some (.int .i64 y) := fun i y hy => by
          rw [Nat.zero_add]
          refine cell_blk_some (blk_new rfl) ?_
          match i, hy with
          | 0, hy => obtain rfl : r.n = y := by simpa using hy
                     rfl
          | i + 1, hy => simp at hy
        have HN := Lib.hid hnew
        have OA := Lib.hid (O9.out.fr (S := fun _ => False) ((Fr.refl _ w9).alloc (.cells #[.int .i64 r.n] 3)) fun _ _ => id)
        have hzz : w1.heap.size ≤ (w9.alloc (.cells #[.int .i64 r.n] 3)).heap.size := by have := E9.out.size; simp; omega
        clear hnew
        go_wp2_with (refine wpList_append_ints (by rfl) (.tmp 18) (.tmp 24) (by rfl) (by rfl) OA.out w9.heap.size 0 1 (m := [r.n]) (by rfl) HN.out (by simp) (by simp; omega) hzz ?_)
        intro g2 cap2 w10 ho10 hf10 hv10 hg10
        have B10 := Lib.hid ((E9.out.alloc E9.out.size (.cells #[.int .i64 r.n] 3)).trans (hf10.toBelow (B := w1.heap.size) hzz fun x hx => (O9.out.lt _ hx).1))
        have O10 := Lib.hid ho10
        clear ho10 hf10 hv10 hg10
        go_wp2_with fail
        go_roundw
        case rel => exact ⟨j + 1, by omega, by go_num, by rw [HFL.out]; exact O10.out, B10.out⟩
        case measure => simp only [RowKit.intOf]; omega
      · have hfl : (metasN.take (j + 1)).filter (fun n => covN D (lvlN n) (fstN n)) = (metasN.take j).filter (fun n => covN D (lvlN n) (fstN n)) := by
          rw [take_at HRN.out, List.filter_append]; simp [hcv]
        have HFL := Lib.hid hfl
        rw [Bool.not_eq_true] at hcv
        rw [hcv]
        clear hfl hcv
        go_wp2_with fail
        go_roundw
        case rel => exact ⟨j + 1, by omega, by go_num, by rw [HFL.out]; exact O9.out, E9.out⟩
        case measure => simp only [RowKit.intOf]; omega
    · obtain rfl : j = 42 := by omega
      have htk : metasN.take 42 = metasN := by decide +kernel
      have RES := Lib.hid (below_call HB1.out (HE.out) (Nat.le_refl _))
      have ho := HO.out.row.mono (B' := w.heap.size) HB1.out.size
      rw [htk] at ho
      rw [htk]
      have HO2 := Lib.hid ho
      clear ho htk HO
      go_wp2_with fail
      go_ret
      exact ⟨_, rfl, HO2.out, RES.out⟩
end Go.Proofs.YtklamgijikcnaaaDoor

namespace Go.Proofs.YtklamgijikcnaaaDoor
open Go.RowKit

theorem elRP : ElT Tryd.prog 63 65 2 16 (.agg #[.int .i64 0, .int .i64 0]) := ⟨Tryd.underlying63, by kernel_rfl, by kernel_rfl, by decide⟩
def OwnR (w : World) (B : Nat) (v : Value) (L : List (Int × Int)) : Prop := w.ownsRow B 65 2 v L.length (flat2 L)
theorem OwnR.nil (w : World) (B : Nat) : OwnR w B (.slice none 0 0) [] := ⟨rfl, .inl ⟨rfl, rfl⟩⟩
theorem OwnR.below {w w' : World} {B : Nat} {v : Value} {L : List (Int × Int)} (h : OwnR w B v L) (hb : Below w.heap.size w w') : OwnR w' B v L := own_frame h (S := fun _ => False) (Fr.below hb) fun _ _ => id
theorem OwnR.shape {w : World} {B : Nat} {v : Value} {L : List (Int × Int)} (h : OwnR w B v L) : ∃ a c, v = .slice a L.length c := own_shape h
theorem OwnR.row {w : World} {B : Nat} {v : Value} {L : List (Int × Int)} (h : OwnR w B v L) : PRow w v L := PRow.of_own h
/-- A place put behind a row. -/
theorem OwnR.snoc {w : World} {B n : Nat} {v : Value} {L : List (Int × Int)} {p : Int × Int} (h : w.ownsRow B 65 2 v n (flat2 L ++ [.int .i64 p.1, .int .i64 p.2])) (hn : n = L.length + 1) : OwnR w B v (L ++ [p]) := by
  unfold OwnR
  rw [List.length_append, List.length_singleton, ← hn, flat2_append]
  exact h
theorem srcP (w : World) (x y : Int) : SrcG 2 (w.alloc (.cells #[.int .i64 x, .int .i64 y] 65)) (.slice (some ⟨w.heap.size, 0, none⟩) 1 1) 1 [.int .i64 x, .int .i64 y] :=
  SrcG.block (blk_new rfl) rfl (fun u hu => by
    simp only [List.mem_cons, List.not_mem_nil, or_false] at hu
    rcases hu with rfl | rfl <;> rfl)
/-- All that have an address, of any addresses. -/
def placesA (G : Int → Int) (ms : List Int) : List (Int × Int) := ((keysD G).map fun n => (n, G n)) ++ (ms.filter fun k => decide (G k ≠ 0)).map fun k => (k, G k)
def keysTo (G : Int → Int) (i : Nat) : List Int := ((List.range i).map fun (i : Nat) => (i : Int)).filter fun n => decide (G n ≠ 0)
theorem keysTo_all (G : Int → Int) : keysTo G 600 = keysD G := rfl
theorem keysTo_succ (G : Int → Int) (i : Nat) : keysTo G (i + 1) = keysTo G i ++ if G i ≠ 0 then [(i : Int)] else [] := by
  unfold keysTo
  rw [List.range_succ, List.map_append, List.filter_append]
  congr 1
  by_cases e : G i = 0
  · rw [if_neg (by simp [e])]; simp [e]
  · rw [if_pos e]; simp [e]
theorem keysTo_length (G : Int → Int) (i : Nat) : (keysTo G i).length ≤ i := by
  unfold keysTo
  refine Nat.le_trans (List.length_filter_le _ _) ?_
  rw [List.length_map, List.length_range]; exact Nat.le_refl _
def metasTo (G : Int → Int) (ms : List Int) : List (Int × Int) := (ms.filter fun k => decide (G k ≠ 0)).map fun k => (k, G k)
theorem metasTo_snoc (G : Int → Int) (ms : List Int) (x : Int) : metasTo G (ms ++ [x]) = metasTo G ms ++ if G x ≠ 0 then [(x, G x)] else [] := by
  unfold metasTo
  rw [List.filter_append, List.map_append]
  congr 1
  by_cases e : G x = 0
  · rw [if_neg (by simp [e])]; simp [e]
  · rw [if_pos e]; simp [e]
theorem metasTo_length (G : Int → Int) (ms : List Int) : (metasTo G ms).length ≤ ms.length := by
  unfold metasTo
  rw [List.length_map]; exact List.length_filter_le _ _
theorem rmetasN_length (D : List Int) : (rmetasN D).length ≤ 42 := by
  have h1 : metasN.length = 42 := by decide +kernel
  rw [← h1]; exact List.length_filter_le _ _
set_option maxHeartbeats 4000000 in
set_option maxRecDepth 100000 in
theorem rplaces_any {cs : Array Value} {D : List Int} {v : Value} {L : List (Int × Int)} {w : World} (hm : IsMap cs D v) (hv : PRow w v L) (hl : L.length ≤ 100000) :
    Calls Tryd.prog 45 #[.agg cs] w fun e w' => ∃ v', e = .returned v' ∧ PRow w' v' (placesA (rgetN D L) (rmetasN D)) ∧ Below w.heap.size w w' := by
  obtain ⟨w0, hw0⟩ : ∃ w0, w0 = w.alloc (.cells cs 68) := ⟨_, rfl⟩
  have hb0 : Below w.heap.size w w0 := by rw [hw0]; exact (Below.refl _ w).alloc (Nat.le_refl _) _
  have hz0 : w0.heap.size = w.heap.size + 1 := by rw [hw0]; simp
  have OB : Hid (w0.heap[w.heap.size]? = some (.cells cs 68 (0, 0))) := Lib.hid (by rw [hw0]; exact blk_new rfl)
  have HB0 := Lib.hid hb0; have HZ := Lib.hid hz0
  have HSZ := Lib.hid hm.size
  have HM := Lib.hid hm
  have HG : Hid (∀ (w' : World) (c : Int), Below w.heap.size w w' → Calls Tryd.prog 48 #[.agg cs, .int .i64 c] w' fun e w2 => e = .returned (.int .i64 (rgetN D L c)) ∧ Below w'.heap.size w' w2) := Lib.hid fun w' c hb' => rget_any c HM.out (hv.below hb') hl
  have HMT := Lib.hid fun w' => rmetas_any (w := w') hm
  have HD : Hid (∀ i : Nat, i < 600 → cs[i]? = some (.int .i64 (rgetN D L i))) := Lib.hid fun i hi => by
    obtain ⟨x, hx⟩ : ∃ x, D[i]? = some x := ⟨_, List.getElem?_eq_getElem (by rw [HM.out.len]; exact hi)⟩
    have : rgetN D L (i : Int) = x := by unfold rgetN; rw [if_pos (by omega), Int.toNat_natCast, List.getD_eq_getElem?_getD, hx]; rfl
    rw [this]
    exact HM.out.data hx
  have HRL := Lib.hid (rmetasN_length D)
  clear hm hv hl hb0 hz0 HM
  generalize rgetN D L = G at *
  generalize rmetasN D = ms at *
  go_enter Tryd.func45, Tryd.ntmps45
  go_wp2_with fail
  rw [← hw0]
  clear hw0
  go_loopw [3, 4] (fun u idx wr => ∃ i : Nat, i ≤ 600 ∧ idx = .int .i64 i ∧ OwnR wr w0.heap.size u ((keysTo G i).map fun n => (n, G n)) ∧ Below w0.heap.size w0 wr) (fun _ idx _ => 600 - (RowKit.intOf idx).toNat)
  case atStart => exact ⟨0, by omega, rfl, OwnR.nil _ _, Below.refl _ _⟩
  case round =>
    obtain ⟨i, hi, rfl, hown, hbe⟩ := hrel
    obtain ⟨ua, uc, rfl⟩ := hown.shape
    have HO := Lib.hid hown; have HE := Lib.hid hbe
    clear hown hbe
    by_cases hi9 : i < 600
    · have c1 := cell_blk_some ((HE.out.block _ (blk_lt OB.out)).trans OB.out) (HD.out i hi9)
      have hks := keysTo_succ G i
      have hkl := keysTo_length G i
      have b0 : (0 : Int) ≤ (i : Int) := by omega
      have b1 : (i : Int) < 600 := by omega
      have hlen : ((keysTo G i).map fun n => (n, G n)).length ≤ 600 := by rw [List.length_map]; omega
      by_cases e : G i = 0
      · rw [if_neg (by simp [e]), List.append_nil] at hks
        have HKS := Lib.hid hks
        rw [e] at c1
        clear hks e hkl hlen
        go_wp2_with fail
        go_roundw
        case rel => exact ⟨i + 1, by omega, by go_num, by rw [HKS.out]; exact HO.out, HE.out⟩
        case measure => simp only [RowKit.intOf]; omega
      · rw [if_pos e] at hks
        have HKS : Hid ((keysTo G (i + 1)).map (fun n => (n, G n)) = (keysTo G i).map (fun n => (n, G n)) ++ [((i : Int), G i)]) := Lib.hid (by rw [hks, List.map_append]; rfl)
        have e1 : (G i != 0) = true := by simp [e]
        clear hks hkl
        generalize hL : (keysTo G i).map (fun n => (n, G n)) = K at *
        clear hL
        generalize hgi : G i = gi at *
        have HE2 := Lib.hid e
        clear e
        have OA := Lib.hid (HO.out.below ((Below.refl _ wr).alloc (Nat.le_refl _) (.cells #[.int .i64 i, .int .i64 gi] 65)))
        have hzz : w0.heap.size ≤ (wr.alloc (.cells #[.int .i64 i, .int .i64 gi] 65)).heap.size := by have := HE.out.size; simp; omega
        go_wp2_with (refine wpList_append_g (by rfl) (.tmp 17) (.tmp 24) (by rfl) elRP (by rfl) OA.out (by rfl) (srcP wr i gi) (by unfold maxLen; omega) (by omega) hzz ?_)
        intro v10 w10 ho10 hf10 hv10
        have B10 := Lib.hid ((HE.out.alloc HE.out.size (.cells #[.int .i64 i, .int .i64 gi] 65)).trans (hf10.toBelow (B := w0.heap.size) hzz fun x hx => (HO.out.lt _ hx).1))
        have O10 := Lib.hid (OwnR.snoc (p := ((i : Int), gi)) ho10 rfl)
        clear ho10 hf10 hv10 OA c1
        go_wp2_with fail
        go_roundw
        case rel => exact ⟨i + 1, by omega, by go_num, by rw [HKS.out]; exact O10.out, B10.out⟩
        case measure => simp only [RowKit.intOf]; omega
    · obtain rfl : i = 600 := by omega
      have hk6 : (keysTo G 600).map (fun n => (n, G n)) = (keysD G).map (fun n => (n, G n)) := rfl
      have hkl := keysD_length (d := G)
      have hmr : wr.heap[w.heap.size]? = some (.cells cs 68 (0, 0)) := (HE.out.block _ (blk_lt OB.out)).trans OB.out
      rw [hk6] at HO ⊢
      obtain ⟨K0, hK0⟩ : ∃ K0, K0 = (keysD G).map fun n => (n, G n) := ⟨_, rfl⟩
      have hk0 : K0.length ≤ 600 := by rw [hK0, List.length_map]; exact hkl
      rw [← hK0] at HO ⊢
      have HK0 := Lib.hid hK0
      clear hk6 hkl hK0
      go_wp2_with (refine wpList_load_row rfl 68 _ rfl _ rfl 68 _ _ _ hmr Tryd.underlying68 rfl (by rw [HSZ.out]; kernel_rfl) ?_)
      refine (HMT.out wr).mono ?_
      rintro e w2 ⟨mv, rfl, hr, hb2⟩
      obtain ⟨xm, ym, rfl⟩ := hr.shape
      have ST : Hid (OwnR w2 w0.heap.size (.slice ua K0.length uc) (K0 ++ metasTo G (ms.take 0)) ∧ Below w0.heap.size w0 w2 ∧ RowI w2 w.heap.size (.slice xm ms.length ym) ms) :=
        Lib.hid ⟨by rw [show metasTo G (ms.take 0) = [] from rfl, List.append_nil]; exact HO.out.below hb2, below_call HE.out hb2 (Nat.le_refl _), hr.mono (Nat.le_trans HB0.out.size HE.out.size)⟩
      have hms42 := HRL.out
      clear hr hb2 HMT HO HE hmr
      go_wp2_with fail
      go_loopw [3, 30] (fun u idx wr => ∃ i : Nat, i ≤ ms.length ∧ idx = .int .i64 i ∧ OwnR wr w0.heap.size u (K0 ++ metasTo G (ms.take i)) ∧ Below w0.heap.size w0 wr ∧ RowI wr w.heap.size (.slice xm ms.length ym) ms) (fun _ idx _ => ms.length - (RowKit.intOf idx).toNat)
      case atStart => exact ⟨0, by omega, rfl, ST.out⟩
      case round =>
        obtain ⟨i, hi, rfl, hown, hbe, hrow⟩ := hrel
        obtain ⟨ua, uc, rfl⟩ := hown.shape
        have HO := Lib.hid hown; have HE := Lib.hid hbe; have HR := Lib.hid hrow
        clear hown hbe hrow ST
        by_cases hi9 : i < ms.length
        · obtain ⟨x, hx⟩ : ∃ x, ms[i]? = some x := ⟨_, List.getElem?_eq_getElem hi9⟩
          obtain ⟨g, c, he, _, _, hgl, hcell⟩ := HR.out.cells (by omega)
          injection he with h1 h3 h2
          clear h3
          subst h1 h2
          have hcx := hcell i x hx
          obtain ⟨T, f, hT, hF, hG⟩ := below_class wr.heap.size wr
          have hbt : ∀ t, Below w0.heap.size w0 (f t) := fun t => below_call HE.out (hF t) (Nat.le_refl _)
          have k0 : ∀ t, (f t).cell? ⟨g, i, none⟩ = some (.int .i64 x) := fun t => ((hF t).cell (p := ⟨g, i, none⟩) hgl).trans hcx
          have K6 : Hid (∀ w', (∃ t, w' = f t) → w'.heap[w.heap.size]? = some (.cells cs 68 (0, 0))) := Lib.hid fun w' hw => by
            obtain ⟨t, rfl⟩ := hw
            exact ((hbt t).block _ (blk_lt OB.out)).trans OB.out
          have HGX : Hid (∀ t, Calls Tryd.prog 48 #[.agg cs, .int .i64 x] (f t) fun e w2 => e = .returned (.int .i64 (G x)) ∧ Below (f t).heap.size (f t) w2) := Lib.hid fun t => HG.out (f t) x (HB0.out.trans ((hbt t).mono HB0.out.size))
          have b0 : (0 : Int) ≤ (i : Int) := by omega
          have b1 : (i : Int) < (ms.length : Int) := by omega
          have C0 := hG _ (below_drewN (Below.refl _ wr) 1)
          have HF := Lib.hid hF; have HGG := Lib.hid hG; have HX := Lib.hid hx
          clear hbt hF hG hx hcell hcx
          go_wp2_with fail
          refine wp_region_class (C := fun w' => ∃ t, w' = f t) (by kernel_rfl) (by kernel_rfl) C0 ?_
          repeat (first
            | (go_big_quiet_step ((go_at_call 48; exact (HGX.out _).mono fun e w'' ⟨he, hb⟩ => ⟨he, HGG.out _ (below_call (HF.out _) hb (Nat.le_refl _))⟩)))
            | (go_big_quiet_want; refine quiet_load_row _ _ rfl _ rfl _ _ _ _ K6.out Tryd.underlying68 rfl (by rw [HSZ.out]; kernel_rfl) ?_; go_big_quiet_on; simp only [Act.put, List.setIfInBounds_toArray, List.set_cons_succ, List.set_cons_zero]))
          refine wpQuiet_nil ?_
          rintro w9 ⟨t, rfl⟩
          have q0 := k0 t
          have HB9 := Lib.hid (HF.out t)
          clear k0 K6 HGX C0 HF HGG
          generalize f t = w9 at q0 HB9 ⊢
          clear t hT f T
          have E9 := Lib.hid (below_call HE.out HB9.out (Nat.le_refl _))
          have O9 := Lib.hid (HO.out.below HB9.out)
          have R9 := Lib.hid (HR.out.below HB9.out)
          have hmt := metasTo_snoc G (ms.take i) x
          rw [← take_at HX.out] at hmt
          have hlen : (K0 ++ metasTo G (ms.take i)).length ≤ 642 := by
            rw [List.length_append]
            have := metasTo_length G (ms.take i)
            rw [List.length_take] at this
            omega
          by_cases e : G x = 0
          · rw [if_neg (by simp [e]), List.append_nil] at hmt
            have HMTT := Lib.hid hmt
            rw [e]
            clear hmt e hlen HO
            go_wp2_with fail
            go_roundw
            case rel => exact ⟨i + 1, by omega, by go_num, by rw [HMTT.out]; exact O9.out, E9.out, R9.out⟩
            case measure => simp only [RowKit.intOf]; omega
          · rw [if_pos e] at hmt
            have HMTT : Hid (K0 ++ metasTo G (ms.take (i + 1)) = (K0 ++ metasTo G (ms.take i)) ++ [(x, G x)]) := Lib.hid (by rw [hmt, List.append_assoc])
            have e1 : (G x != 0) = true := by simp [e]
            clear hmt
            generalize hL : K0 ++ metasTo G (ms.take i) = K at *
            clear hL HO
            generalize hgi : G x = gi at *
            have HE2 := Lib.hid e
            clear e
            have OA := Lib.hid (O9.out.below ((Below.refl _ w9).alloc (Nat.le_refl _) (.cells #[.int .i64 x, .int .i64 gi] 65)))
            have RA := Lib.hid (R9.out.below ((Below.refl _ w9).alloc (Nat.le_refl _) (.cells #[.int .i64 x, .int .i64 gi] 65)))
            have hzz : w0.heap.size ≤ (w9.alloc (.cells #[.int .i64 x, .int .i64 gi] 65)).heap.size := by have := E9.out.size; simp; omega
            go_wp2_with (refine wpList_append_g (by rfl) (.tmp 41) (.tmp 48) (by rfl) elRP (by rfl) OA.out (by rfl) (srcP w9 x gi) (by unfold maxLen; omega) (by omega) hzz ?_)
            intro v10 w10 ho10 hf10 hv10
            have B10 := Lib.hid ((E9.out.alloc E9.out.size (.cells #[.int .i64 x, .int .i64 gi] 65)).trans (hf10.toBelow (B := w0.heap.size) hzz fun y hy => (O9.out.lt _ hy).1))
            have O10 := Lib.hid (OwnR.snoc (p := (x, gi)) ho10 rfl)
            have R10 := Lib.hid (RA.out.fr' hf10 fun h0 q hq e => RA.out.off_own h0 OA.out (by decide) q hq e)
            clear ho10 hf10 hv10 OA RA q0
            go_wp2_with fail
            go_roundw
            case rel => exact ⟨i + 1, by omega, by go_num, by rw [HMTT.out]; exact O10.out, B10.out, R10.out⟩
            case measure => simp only [RowKit.intOf]; omega
        · obtain rfl : i = ms.length := by omega
          have hp : placesA G ms = K0 ++ metasTo G ms := by rw [HK0.out]; rfl
          rw [List.take_length] at HO ⊢
          have HP := Lib.hid hp
          have RES := Lib.hid (HB0.out.trans (HE.out.mono HB0.out.size))
          clear hp
          go_wp2_with fail
          go_ret
          exact ⟨_, rfl, by rw [HP.out]; exact HO.out.row, RES.out⟩
end Go.Proofs.YtklamgijikcnaaaDoor

namespace Go.Proofs.YtklamgijikcnaaaDoor
open Go.RowKit

def rootA (G : Int → Int) : List Value := rootsN.map fun c => .int .u32 (IntKind.u32.wrap (G c))
theorem below_setRow {B g : Nat} {a w : World} (h : Below B a w) (hg : B ≤ g) (cs : Array Value) : Below B a (w.setRow g cs) :=
  ⟨h.os, h.tape, h.output, by rw [size_setRow]; exact h.size, fun x hx => (setRow_other w g x cs (by omega)).trans (h.block x hx)⟩
theorem rootA_one (G : Int → Int) : ((rootA G).toArray).all (·.oneCell') = true := by simp [rootA, rootsN, Value.oneCell']
theorem if_pos_wanted {A B : Prop} {b : Bool} (h : b = true) (ha : A) : if b = true then A else B := by rw [if_pos h]; exact ha
-- VALS
def V1 (w : World) (cs : Array Value) (G : Int → Int) (k : Nat) : Value :=
  match k with
  | 0 => .pointer (some ⟨w.heap.size, 0, none⟩)
  | 1 => .pointer (some ⟨w.heap.size, 0, none⟩)
  | 2 => .int .i64 (G 0)
  | 3 => .int .u32 (IntKind.u32.wrap (G 0))
  | 4 => .pointer (some ⟨w.heap.size, 0, none⟩)
  | 5 => .pointer (some ⟨w.heap.size, 1, none⟩)
  | 6 => .int .i64 (G 1)
  | 7 => .int .u32 (IntKind.u32.wrap (G 1))
  | 8 => .pointer (some ⟨w.heap.size, 0, none⟩)
  | 9 => .pointer (some ⟨w.heap.size, 2, none⟩)
  | 10 => .int .i64 (G 2)
  | 11 => .int .u32 (IntKind.u32.wrap (G 2))
  | 12 => .pointer (some ⟨w.heap.size, 0, none⟩)
  | 13 => .pointer (some ⟨w.heap.size, 3, none⟩)
  | 14 => .int .i64 (G 3)
  | 15 => .int .u32 (IntKind.u32.wrap (G 3))
  | 16 => .pointer (some ⟨w.heap.size, 0, none⟩)
  | 17 => .pointer (some ⟨w.heap.size, 4, none⟩)
  | 18 => .int .i64 (G 4)
  | 19 => .int .u32 (IntKind.u32.wrap (G 4))
  | 20 => .pointer (some ⟨w.heap.size, 0, none⟩)
  | 21 => .pointer (some ⟨w.heap.size, 5, none⟩)
  | 22 => .int .i64 (G 5)
  | 23 => .int .u32 (IntKind.u32.wrap (G 5))
  | 24 => .agg cs
  | 25 => .int .i64 (G (-6))
  | 26 => .int .u32 (IntKind.u32.wrap (G (-6)))
  | 27 => .agg cs
  | 28 => .int .i64 (G (-23))
  | 29 => .int .u32 (IntKind.u32.wrap (G (-23)))
  | 30 => .agg cs
  | 31 => .int .i64 (G (-280))
  | 32 => .int .u32 (IntKind.u32.wrap (G (-280)))
  | 33 => .agg (rootA G).toArray
  | _ => undef
-- END VALS
set_option maxHeartbeats 4000000 in
set_option maxRecDepth 100000 in
theorem rroot_any {cs : Array Value} {D : List Int} {v : Value} {L : List (Int × Int)} {w : World} (hm : IsMap cs D v) (hv : PRow w v L) (hl : L.length ≤ 100000) :
    Calls Tryd.prog 46 #[.agg cs] w fun e w' => e = .returned (.agg (rootA (rgetN D L)).toArray) ∧ Below w.heap.size w w' := by
  have HSZ := Lib.hid hm.size
  have HM := Lib.hid hm
  have HG : Hid (∀ (w' : World) (c : Int), Below w.heap.size w w' → Calls Tryd.prog 48 #[.agg cs, .int .i64 c] w' fun e w2 => e = .returned (.int .i64 (rgetN D L c)) ∧ Below w'.heap.size w' w2) := Lib.hid fun w' c hb' => rget_any c HM.out (hv.below hb') hl
  have HD : Hid (∀ i : Nat, i < 600 → cs[i]? = some (.int .i64 (rgetN D L i))) := Lib.hid fun i hi => by
    obtain ⟨x, hx⟩ : ∃ x, D[i]? = some x := ⟨_, List.getElem?_eq_getElem (by rw [HM.out.len]; exact hi)⟩
    have : rgetN D L (i : Int) = x := by unfold rgetN; rw [if_pos (by omega), Int.toNat_natCast, List.getD_eq_getElem?_getD, hx]; rfl
    rw [this]
    exact HM.out.data hx
  clear hm hv hl HM
  generalize rgetN D L = G at *
  obtain ⟨w0, hw0⟩ : ∃ w0, w0 = (w.alloc (.cells cs 68)).alloc (.cells #[.int .u32 0, .int .u32 0, .int .u32 0, .int .u32 0, .int .u32 0, .int .u32 0, .int .u32 0, .int .u32 0, .int .u32 0] 55) := ⟨_, rfl⟩
  have hz0 : w0.heap.size = w.heap.size + 2 := by rw [hw0]; simp
  have ob : w0.heap[w.heap.size]? = some (.cells cs 68 (0, 0)) := by rw [hw0]; exact blk_old (blk_new rfl)
  have op : w0.heap[w.heap.size + 1]? = some (.cells zeros9.toArray 55 (0, 0)) := by rw [hw0]; exact blk_new (by simp)
  have hb0 : Below w.heap.size w w0 := by rw [hw0]; exact ((Below.refl _ w).alloc (Nat.le_refl _) _).alloc (by simp) _
  have HMB : Hid (∀ w2, Below w0.heap.size w0 w2 → w2.heap[w.heap.size]? = some (.cells cs 68 (0, 0))) := Lib.hid fun w2 h => (h.block _ (by omega)).trans ob
  have HPB : Hid (∀ w2, Below w0.heap.size w0 w2 → w2.heap[w.heap.size + 1]? = some (.cells zeros9.toArray 55 (0, 0))) := Lib.hid fun w2 h => (h.block _ (by omega)).trans op
  have HCD : Hid (∀ w2, Below w0.heap.size w0 w2 → ∀ i : Nat, i < 600 → w2.cell? ⟨w.heap.size, i, none⟩ = some (.int .i64 (G i))) := Lib.hid fun w2 h i hi => cell_blk_some (HMB.out w2 h) (HD.out i hi)
  have HGC : Hid (∀ w2, Below w0.heap.size w0 w2 → ∀ c, Calls Tryd.prog 48 #[.agg cs, .int .i64 c] w2 fun e w3 => e = .returned (.int .i64 (G c)) ∧ Below w2.heap.size w2 w3) := Lib.hid fun w2 h c => HG.out w2 c (hb0.trans (h.mono (by omega)))
  have HCC : Hid (∀ w2 w3, Below w0.heap.size w0 w2 → Below w2.heap.size w2 w3 → Below w0.heap.size w0 w3) := Lib.hid fun w2 w3 h1 h2 => below_call h1 h2 (Nat.le_refl _)
  have HRR : Hid (∀ w2, Below w0.heap.size w0 w2 → (w2.setRow (w.heap.size + 1) (rootA G).toArray).heap[w.heap.size + 1]? = some (.cells (rootA G).toArray 55 (0, 0)) ∧ Below w.heap.size w (w2.setRow (w.heap.size + 1) (rootA G).toArray)) := Lib.hid fun w2 h => ⟨setRow_heap w2 _ _ _ _ _ (HPB.out w2 h), below_setRow (hb0.trans (h.mono (by omega))) (by omega) _⟩
  have C0 : Hid (Below w0.heap.size w0 w0.drew) := Lib.hid (Below.refl _ w0).drew
  clear hb0 op ob hz0 HG HD
  go_enter Tryd.func46, Tryd.ntmps46
  go_wp2_with fail
  rw [← hw0]
  clear hw0
  refine wp_region_vals (frame := fun y => ⟨#[.agg cs, .pointer (some ⟨w.heap.size, 0, none⟩), .pointer (some ⟨w.heap.size + 1, 0, none⟩), y 0, y 1, y 2, y 3, y 4, y 5, y 6, y 7, y 8, y 9, y 10, y 11, y 12, y 13, y 14, y 15, y 16, y 17, y 18, y 19, y 20, y 21, y 22, y 23, y 24, y 25, y 26, y 27, y 28, y 29, y 30, y 31, y 32, y 33], []⟩)
    (V := V1 w cs G) (C := fun w2 => Below w0.heap.size w0 w2) (R := fun w2 => w2.heap[w.heap.size + 1]? = some (.cells (rootA G).toArray 55 (0, 0)) ∧ Below w.heap.size w w2) (n := 34) (fun _ => undef) (by kernel_rfl) (by kernel_rfl) rfl
    (fun o ho => by obtain rfl := Option.some.inj ho; decide) rfl C0.out ?_ ?_
  refine ⟨?_, ?_, ?_, ?_, ?_, ?_, ?_, ?_, ?_, ?_, ?_, ?_, ?_, ?_, ?_, ?_, ?_, ?_, ?_, ?_, ?_, ?_, ?_, ?_, ?_, ?_, ?_, ?_, ?_, ?_, ?_, ?_, ?_, ?_, ?_, trivial⟩
-- STEPS
  · intro y w2 hC hp K hK
    go_simp
    exact hK _ _ rfl hC
  · intro y w2 hC hp K hK
    have h0 : y 0 = .pointer (some ⟨w.heap.size, 0, none⟩) := hp 0 (by decide) (by decide)
    go_simp
    exact hK _ _ (by simp [updV, V1, rootA, rootsN, h0]) hC
  · intro y w2 hC hp K hK
    have h1 : y 1 = .pointer (some ⟨w.heap.size, 0, none⟩) := hp 1 (by decide) (by decide)
    have c1 := HCD.out w2 hC 0 (by decide)
    have c1 : w2.cell? ⟨w.heap.size, 0, none⟩ = some (.int .i64 (G 0)) := c1
    go_simp
    exact hK _ _ (by simp [updV, V1, rootA, rootsN, h1]) hC
  · intro y w2 hC hp K hK
    have h2 : y 2 = .int .i64 (G 0) := hp 2 (by decide) (by decide)
    go_simp
    exact hK _ _ (by simp [updV, V1, rootA, rootsN, h2]) hC
  · intro y w2 hC hp K hK
    go_simp
    exact hK _ _ rfl hC
  · intro y w2 hC hp K hK
    have h4 : y 4 = .pointer (some ⟨w.heap.size, 0, none⟩) := hp 4 (by decide) (by decide)
    go_simp
    exact hK _ _ (by simp [updV, V1, rootA, rootsN, h4]) hC
  · intro y w2 hC hp K hK
    have h5 : y 5 = .pointer (some ⟨w.heap.size, 1, none⟩) := hp 5 (by decide) (by decide)
    have c1 := HCD.out w2 hC 1 (by decide)
    have c1 : w2.cell? ⟨w.heap.size, 1, none⟩ = some (.int .i64 (G 1)) := c1
    go_simp
    exact hK _ _ (by simp [updV, V1, rootA, rootsN, h5]) hC
  · intro y w2 hC hp K hK
    have h6 : y 6 = .int .i64 (G 1) := hp 6 (by decide) (by decide)
    go_simp
    exact hK _ _ (by simp [updV, V1, rootA, rootsN, h6]) hC
  · intro y w2 hC hp K hK
    go_simp
    exact hK _ _ rfl hC
  · intro y w2 hC hp K hK
    have h8 : y 8 = .pointer (some ⟨w.heap.size, 0, none⟩) := hp 8 (by decide) (by decide)
    go_simp
    exact hK _ _ (by simp [updV, V1, rootA, rootsN, h8]) hC
  · intro y w2 hC hp K hK
    have h9 : y 9 = .pointer (some ⟨w.heap.size, 2, none⟩) := hp 9 (by decide) (by decide)
    have c1 := HCD.out w2 hC 2 (by decide)
    have c1 : w2.cell? ⟨w.heap.size, 2, none⟩ = some (.int .i64 (G 2)) := c1
    go_simp
    exact hK _ _ (by simp [updV, V1, rootA, rootsN, h9]) hC
  · intro y w2 hC hp K hK
    have h10 : y 10 = .int .i64 (G 2) := hp 10 (by decide) (by decide)
    go_simp
    exact hK _ _ (by simp [updV, V1, rootA, rootsN, h10]) hC
  · intro y w2 hC hp K hK
    go_simp
    exact hK _ _ rfl hC
  · intro y w2 hC hp K hK
    have h12 : y 12 = .pointer (some ⟨w.heap.size, 0, none⟩) := hp 12 (by decide) (by decide)
    go_simp
    exact hK _ _ (by simp [updV, V1, rootA, rootsN, h12]) hC
  · intro y w2 hC hp K hK
    have h13 : y 13 = .pointer (some ⟨w.heap.size, 3, none⟩) := hp 13 (by decide) (by decide)
    have c1 := HCD.out w2 hC 3 (by decide)
    have c1 : w2.cell? ⟨w.heap.size, 3, none⟩ = some (.int .i64 (G 3)) := c1
    go_simp
    exact hK _ _ (by simp [updV, V1, rootA, rootsN, h13]) hC
  · intro y w2 hC hp K hK
    have h14 : y 14 = .int .i64 (G 3) := hp 14 (by decide) (by decide)
    go_simp
    exact hK _ _ (by simp [updV, V1, rootA, rootsN, h14]) hC
  · intro y w2 hC hp K hK
    go_simp
    exact hK _ _ rfl hC
  · intro y w2 hC hp K hK
    have h16 : y 16 = .pointer (some ⟨w.heap.size, 0, none⟩) := hp 16 (by decide) (by decide)
    go_simp
    exact hK _ _ (by simp [updV, V1, rootA, rootsN, h16]) hC
  · intro y w2 hC hp K hK
    have h17 : y 17 = .pointer (some ⟨w.heap.size, 4, none⟩) := hp 17 (by decide) (by decide)
    have c1 := HCD.out w2 hC 4 (by decide)
    have c1 : w2.cell? ⟨w.heap.size, 4, none⟩ = some (.int .i64 (G 4)) := c1
    go_simp
    exact hK _ _ (by simp [updV, V1, rootA, rootsN, h17]) hC
  · intro y w2 hC hp K hK
    have h18 : y 18 = .int .i64 (G 4) := hp 18 (by decide) (by decide)
    go_simp
    exact hK _ _ (by simp [updV, V1, rootA, rootsN, h18]) hC
  · intro y w2 hC hp K hK
    go_simp
    exact hK _ _ rfl hC
  · intro y w2 hC hp K hK
    have h20 : y 20 = .pointer (some ⟨w.heap.size, 0, none⟩) := hp 20 (by decide) (by decide)
    go_simp
    exact hK _ _ (by simp [updV, V1, rootA, rootsN, h20]) hC
  · intro y w2 hC hp K hK
    have h21 : y 21 = .pointer (some ⟨w.heap.size, 5, none⟩) := hp 21 (by decide) (by decide)
    have c1 := HCD.out w2 hC 5 (by decide)
    have c1 : w2.cell? ⟨w.heap.size, 5, none⟩ = some (.int .i64 (G 5)) := c1
    go_simp
    exact hK _ _ (by simp [updV, V1, rootA, rootsN, h21]) hC
  · intro y w2 hC hp K hK
    have h22 : y 22 = .int .i64 (G 5) := hp 22 (by decide) (by decide)
    go_simp
    exact hK _ _ (by simp [updV, V1, rootA, rootsN, h22]) hC
  · intro y w2 hC hp K hK
    refine if_pos_wanted rfl ?_
    refine wp_load_row 68 _ rfl w.heap.size rfl 68 _ _ _ (HMB.out w2 hC) Tryd.underlying68 rfl (by rw [HSZ.out]; kernel_rfl) ?_
    exact hK _ _ rfl hC
  · intro y w2 hC hp K hK
    have h24 : y 24 = .agg cs := hp 24 (by decide) (by decide)
    have e24 : (y 24) = .agg cs := h24
    go_simp
    go_at_call 48
    refine (HGC.out w2 hC (-6)).mono ?_
    rintro e w3 ⟨rfl, hb3⟩
    exact hK _ _ (by simp [updV, V1, h24]) (HCC.out w2 w3 hC hb3)
  · intro y w2 hC hp K hK
    have h25 : y 25 = .int .i64 (G (-6)) := hp 25 (by decide) (by decide)
    go_simp
    exact hK _ _ (by simp [updV, V1, rootA, rootsN, h25]) hC
  · intro y w2 hC hp K hK
    refine if_pos_wanted rfl ?_
    refine wp_load_row 68 _ rfl w.heap.size rfl 68 _ _ _ (HMB.out w2 hC) Tryd.underlying68 rfl (by rw [HSZ.out]; kernel_rfl) ?_
    exact hK _ _ rfl hC
  · intro y w2 hC hp K hK
    have h27 : y 27 = .agg cs := hp 27 (by decide) (by decide)
    have e27 : (y 27) = .agg cs := h27
    go_simp
    go_at_call 48
    refine (HGC.out w2 hC (-23)).mono ?_
    rintro e w3 ⟨rfl, hb3⟩
    exact hK _ _ (by simp [updV, V1, h27]) (HCC.out w2 w3 hC hb3)
  · intro y w2 hC hp K hK
    have h28 : y 28 = .int .i64 (G (-23)) := hp 28 (by decide) (by decide)
    go_simp
    exact hK _ _ (by simp [updV, V1, rootA, rootsN, h28]) hC
  · intro y w2 hC hp K hK
    refine if_pos_wanted rfl ?_
    refine wp_load_row 68 _ rfl w.heap.size rfl 68 _ _ _ (HMB.out w2 hC) Tryd.underlying68 rfl (by rw [HSZ.out]; kernel_rfl) ?_
    exact hK _ _ rfl hC
  · intro y w2 hC hp K hK
    have h30 : y 30 = .agg cs := hp 30 (by decide) (by decide)
    have e30 : (y 30) = .agg cs := h30
    go_simp
    go_at_call 48
    refine (HGC.out w2 hC (-280)).mono ?_
    rintro e w3 ⟨rfl, hb3⟩
    exact hK _ _ (by simp [updV, V1, h30]) (HCC.out w2 w3 hC hb3)
  · intro y w2 hC hp K hK
    have h31 : y 31 = .int .i64 (G (-280)) := hp 31 (by decide) (by decide)
    go_simp
    exact hK _ _ (by simp [updV, V1, rootA, rootsN, h31]) hC
  · intro y w2 hC hp K hK
    have h3 : y 3 = .int .u32 (IntKind.u32.wrap (G 0)) := hp 3 (by decide) (by decide)
    have h7 : y 7 = .int .u32 (IntKind.u32.wrap (G 1)) := hp 7 (by decide) (by decide)
    have h11 : y 11 = .int .u32 (IntKind.u32.wrap (G 2)) := hp 11 (by decide) (by decide)
    have h15 : y 15 = .int .u32 (IntKind.u32.wrap (G 3)) := hp 15 (by decide) (by decide)
    have h19 : y 19 = .int .u32 (IntKind.u32.wrap (G 4)) := hp 19 (by decide) (by decide)
    have h23 : y 23 = .int .u32 (IntKind.u32.wrap (G 5)) := hp 23 (by decide) (by decide)
    have h26 : y 26 = .int .u32 (IntKind.u32.wrap (G (-6))) := hp 26 (by decide) (by decide)
    have h29 : y 29 = .int .u32 (IntKind.u32.wrap (G (-23))) := hp 29 (by decide) (by decide)
    have h32 : y 32 = .int .u32 (IntKind.u32.wrap (G (-280))) := hp 32 (by decide) (by decide)
    go_simp
    exact hK _ _ (by simp [updV, V1, rootA, rootsN, h3, h7, h11, h15, h19, h23, h26, h29, h32]) hC
  · intro y w2 hC hp K hK
    have h33 : y 33 = .agg (rootA G).toArray := hp 33 (by decide) (by decide)
    refine if_pos_wanted rfl ?_
    refine wp_store_row 55 _ _ rfl (w.heap.size + 1) _ rfl h33 55 _ (HPB.out w2 hC) (by kernel_rfl) (by kernel_rfl) (rootA_one G) ?_
    exact hK _ _ rfl (HRR.out w2 hC)
  -- END STEPS
  · rintro y w9 _ ⟨hr, hb⟩
    have HR := Lib.hid hr; have HB := Lib.hid hb
    clear hr hb HMB HPB HCD HGC HCC HRR C0
    go_wp2_with fail
    refine bodyPost_ret (results_cell_row rfl _ _ (w.heap.size + 1) _ _ _ _ rfl HR.out Tryd.underlying55 rfl (by kernel_rfl)) rfl ?_
    exact ⟨rfl, HB.out⟩
end Go.Proofs.YtklamgijikcnaaaDoor
