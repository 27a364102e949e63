/- Walks of marlref09.New, Order, and of the law's same. -/
/- Walk of marlref09.Dirty. -/
import Derived.Test.YtjldocpjoiibjaaC55
import Derived.Test.YtjldocpjoiibjaaC43
import Derived.Deep.LoopGhost
namespace Go.Proofs.Ytjldocpjoiibjaa
open Go.RowKit

theorem infoKeyR : (Try.prog.info? 55).map (fun i => (i.zero, i.size, i.bytes)) = some (some (.agg #[.int .i64 0, .int .i64 0]), 2, 16) := by kernel_rfl
theorem keys_ownE {w : World} {B n : Nat} {v : Value} {e : TypeId} {K : List (Int × Int)} (h : w.ownsRow B e 2 v n (flatK K)) (hn : 0 < n) : ∃ g cap, v = .slice (some ⟨g, 0, none⟩) n cap ∧ B ≤ g ∧ KeysAt w g K ∧ K.length = n := by
  have hl : K.length = n := by have := h.1; rw [flatK_length] at this; omega
  rcases h.2 with ⟨_, h0⟩ | ⟨g, cap, cur, rfl, hb, hg, hc, _, hs, ht⟩
  · omega
  · refine ⟨g, cap, rfl, hb, ⟨fun i k hi => ?_, fun i k hi => ?_, blk_lt hg⟩, hl⟩
    · have hik := (List.getElem?_eq_some_iff.1 hi).1
      have h1 := (flatK_at K i k hi).1
      rw [← ht, List.getElem?_take, if_pos (by omega), Array.getElem?_toList] at h1
      exact cell_blk_some hg h1
    · have hik := (List.getElem?_eq_some_iff.1 hi).1
      have h1 := (flatK_at K i k hi).2
      rw [← ht, List.getElem?_take, if_pos (by omega), Array.getElem?_toList] at h1
      exact cell_blk_some hg h1
/-- A slice of keys. -/
def KeyRow (w : World) (B : Nat) (v : Value) (K : List (Int × Int)) : Prop := ∃ a c, v = .slice a K.length c ∧ (0 < K.length → ∃ g, a = some ⟨g, 0, none⟩ ∧ B ≤ g ∧ KeysAt w g K)
theorem KeyRow.own {w : World} {B n : Nat} {v : Value} {e : TypeId} {K : List (Int × Int)} (h : w.ownsRow B e 2 v n (flatK K)) : KeyRow w B v K := by
  have hl : K.length = n := by have := h.1; rw [flatK_length] at this; omega
  obtain ⟨a, c, rfl⟩ := own_shape h
  refine ⟨a, c, by rw [hl], fun h0 => ?_⟩
  obtain ⟨g, cap, he, hb, hk, _⟩ := keys_ownE h (by omega)
  exact ⟨g, (Value.slice.inj he).1, hb, hk⟩
theorem KeyRow.below {w w' : World} {B : Nat} {v : Value} {K : List (Int × Int)} (h : KeyRow w B v K) (hb : Below w.heap.size w w') : KeyRow w' B v K := by
  obtain ⟨a, c, rfl, h2⟩ := h
  refine ⟨a, c, rfl, fun h0 => ?_⟩
  obtain ⟨g, h3, h4, h5⟩ := h2 h0
  exact ⟨g, h3, h4, h5.below (hb.block g h5.lt) hb.size⟩

set_option maxHeartbeats 4000000 in
set_option maxRecDepth 100000 in
theorem refNew_ok {w : World} {room : Int} (h1 : 1 ≤ room) (h2 : room ≤ 4096) :
    Calls Try.prog 19 #[.int .i64 room] w fun e w' => e = .returned (.tuple #[refV room (.slice none 0 0), .int .i64 0]) ∧ Below w.heap.size w w' := by
  have q1 : decide (room < 1) = false := decide_eq_false (by omega)
  have q2 : decide (4096 < room) = false := decide_eq_false (by omega)
  unfold refV
  go_enter Try.func19, Try.ntmps19
  go_wp2_with fail
  refine bodyPost_ret (results_row_tmp rfl _ _ w.heap.size _ _ _ _ rfl (blk_new rfl) Try.underlying52 rfl (by kernel_rfl)) rfl ?_
  refine ⟨rfl, ?_⟩
  exact below_alloc (Below.refl _ w) (Nat.le_refl _) _
set_option maxHeartbeats 4000000 in
set_option maxRecDepth 100000 in
theorem refNew_bad {w : World} {room : Int} (h : room < 1 ∨ 4096 < room) :
    Calls Try.prog 19 #[.int .i64 room] w fun e w' => e = .returned (.tuple #[refV 0 (.slice none 0 0), .int .i64 22]) ∧ Below w.heap.size w w' := by
  unfold refV
  have hbel : Below w.heap.size w (w.alloc (.cells #[.int .i64 0, .slice none 0 0] 52)) := below_alloc (Below.refl _ w) (Nat.le_refl _) _
  have HB := Lib.hid hbel
  clear hbel
  by_cases hlt : room < 1
  · have q1 : decide (room < 1) = true := decide_eq_true hlt
    go_enter Try.func19, Try.ntmps19
    go_wp2_with fail
    exact bodyPost_ret (results_row_tmp rfl _ _ w.heap.size _ _ _ _ rfl (blk_new rfl) Try.underlying52 rfl (by kernel_rfl)) rfl ⟨rfl, HB.out⟩
  · have q1 : decide (room < 1) = false := decide_eq_false hlt
    have q2 : decide (4096 < room) = true := decide_eq_true (by omega)
    go_enter Try.func19, Try.ntmps19
    go_wp2_with fail
    exact bodyPost_ret (results_row_tmp rfl _ _ w.heap.size _ _ _ _ rfl (blk_new rfl) Try.underlying52 rfl (by kernel_rfl)) rfl ⟨rfl, HB.out⟩

set_option maxHeartbeats 4000000 in
set_option maxRecDepth 100000 in
theorem refOrder_any {w : World} {v : Value} {P : List Pb} {room : Int} (h : RefAt w v P) (hl : P.length ≤ 100000) :
    Calls Try.prog 24 #[refV room v] w fun e w' => ∃ v', e = .returned v' ∧ KeyRow w' w.heap.size v' (P.map (·.k)) ∧ Below w.heap.size w w' := by
  obtain ⟨i0, hi, hz0, hz1, hz2⟩ := info_parts infoKeyR
  obtain ⟨a, c, rfl, hcap, hrow⟩ := h
  have HR := Lib.hid hrow
  clear hrow
  unfold refV
  go_enter Try.func24, Try.ntmps24
  go_upto_region 1 with fail
  obtain ⟨w1, hw1⟩ : ∃ w1, w1 = w.alloc (.cells #[.int .i64 room, .slice a P.length c] 52) := ⟨_, rfl⟩
  have bc : w1.heap[w.heap.size]? = some (.cells #[.int .i64 room, .slice a P.length c] 52 (0, 0)) := by rw [hw1]; exact blk_new rfl
  have hb1 : Below w.heap.size w w1 := by rw [hw1]; exact below_alloc (Below.refl _ w) (Nat.le_refl _) _
  rw [← hw1]
  clear hw1
  have x1 : w1.cell? ⟨w.heap.size, 1, none⟩ = some (.slice a P.length c) := cell_blk_some bc rfl
  have BC := Lib.hid bc; have HB1 := Lib.hid hb1
  clear bc hb1
  go_wp2_with fail
  go_loopw [3, 8] (fun o i wr => ∃ k : Nat, k ≤ P.length ∧ i = .int .i64 k ∧ wr.ownsRow w1.heap.size 55 2 o k (flatK ((P.map (·.k)).take k)) ∧ Below w1.heap.size w1 wr) (fun _ i _ => P.length - (intOf i).toNat)
  case atStart => exact ⟨0, Nat.zero_le _, rfl, ⟨rfl, .inl ⟨rfl, rfl⟩⟩, Below.refl _ _⟩
  case round =>
    obtain ⟨k, hk, rfl, hown, hbel⟩ := hrel
    have bcr := blk_below hbel (blk_lt BC.out) BC.out
    have x2 : wr.cell? ⟨w.heap.size, 1, none⟩ = some (.slice a P.length c) := cell_blk_some bcr rfl
    clear bcr
    by_cases hlt : k < P.length
    · obtain ⟨g, rfl, hg⟩ := HR.out (by omega)
      obtain ⟨b, hb⟩ : ∃ b, P[k]? = some b := ⟨_, List.getElem?_eq_getElem hlt⟩
      have hg1 := hg.same (HB1.out.block g hg.lt) HB1.out.size
      have hg2 := hg1.same (hbel.block g hg1.lt) hbel.size
      have d0 := hg2.c0 k b hb
      have d1 := hg2.c1 k b hb
      have m1 : (k : Int) < (P.length : Int) := by omega
      have m2 : (0 : Int) ≤ (k : Int) := by omega
      obtain ⟨⟨k1, k2⟩, bd, bdy, bp⟩ := b
      simp only at d0 d1
      obtain ⟨a4, c4, hsh⟩ := own_shape hown
      subst hsh
      have hnew := hown.alloc (.cells #[.int .i64 k1, .int .i64 k2] 55)
      have HNEW := Lib.hid hnew; have HBL := Lib.hid hbel; have HBK := Lib.hid hb
      clear hown hnew hbel hb hg hg1 hg2
      go_wp2_with (at_builtin; refine wpList_append_own _ rfl _ _ 61 rfl w1.heap.size 55 i0 (.agg #[.int .i64 0, .int .i64 0]) 2 16 Try.underlying61 hi hz0 hz1 hz2 rfl (by decide) _ _ _ rfl HNEW.out ⟨wr.heap.size, 0, none⟩ 1 1 [.int .i64 k1, .int .i64 k2] rfl rfl ?c1 ?c2 ?c3 ?c4 ?c5 ?_)
      case c1 => exact row_cells (blk_new rfl) fun j u hu => by simpa using hu
      case c2 => exact flatK_one [(k1, k2)]
      case c3 => unfold maxLen; omega
      case c4 => omega
      case c5 => simp; exact Nat.le_succ_of_le HBL.out.size
      intro v' w4 hown2 hgr2 _
      have hbw : Below w1.heap.size w1 w4 := (below_alloc HBL.out (Nat.le_refl _) (Obj.cells #[.int .i64 k1, .int .i64 k2] 55)).grown hgr2 (by simp; exact Nat.le_succ_of_le HBL.out.size) (fun k hk => (HNEW.out.lt k hk).1)
      have hfl : flatK ((P.map (·.k)).take k) ++ [.int .i64 k1, .int .i64 k2] = flatK ((P.map (·.k)).take (k + 1)) := by
        rw [List.take_add_one, List.getElem?_map, HBK.out, flatK_append]; rfl
      rw [hfl] at hown2
      have HOW := Lib.hid hown2; have HBW := Lib.hid hbw
      clear hown2 hbw hgr2 hfl HNEW d0 d1 x2
      go_wp2_with fail
      go_round
      case rel => exact ⟨k + 1, by omega, by go_num, HOW.out, HBW.out⟩
      case measure => simp [intOf]; omega
    · obtain rfl : k = P.length := by omega
      have HOW := Lib.hid hown; have HBW := Lib.hid hbel
      clear hown hbel
      go_wp2_with fail
      go_ret
      have h1 := HOW.out
      rw [show (P.map (·.k)).take P.length = P.map (·.k) by rw [← List.length_map (f := fun b : Pb => b.k), List.take_length]] at h1
      obtain ⟨a', c', he, h2⟩ := KeyRow.own h1
      refine ⟨_, rfl, ⟨a', c', he, fun h0 => ?_⟩, HB1.out.trans (HBW.out.mono HB1.out.size)⟩
      obtain ⟨g, e1, e2, e3⟩ := h2 h0
      exact ⟨g, e1, Nat.le_trans HB1.out.size e2, e3⟩

set_option maxHeartbeats 4000000 in
set_option maxRecDepth 100000 in
theorem same_any {w : World} {B B' : Nat} {v v' : Value} {K : List (Int × Int)} (h : KeyRow w B v K) (h' : KeyRow w B' v' K) (hl : K.length ≤ 1000000) :
    Calls Try.prog 23 #[v, v'] w fun e w' => e = .returned (.bool true) ∧ Below w.heap.size w w' := by
  obtain ⟨a, c, rfl, hk⟩ := h
  obtain ⟨a', c', rfl, hk'⟩ := h'
  have HK := Lib.hid hk; have HK' := Lib.hid hk'
  clear hk hk'
  go_enter Try.func23, Try.ntmps23
  go_wp2_with fail
  go_loopw [13] (fun i wr => ∃ k : Nat, k ≤ K.length ∧ i = .int .i64 k ∧ Fr (fun _ => False) w wr) (fun i _ => K.length - (intOf i).toNat)
  case atStart => exact ⟨0, Nat.zero_le _, rfl, Fr.refl _ _⟩
  case round =>
    obtain ⟨k, hk, rfl, hf⟩ := hrel
    have F1 := Lib.hid hf
    clear hf
    by_cases hlt : k < K.length
    · obtain ⟨g, rfl, _, hg⟩ := HK.out (by omega)
      obtain ⟨g', rfl, _, hg'⟩ := HK'.out (by omega)
      obtain ⟨x, hx⟩ : ∃ x, K[k]? = some x := ⟨_, List.getElem?_eq_getElem hlt⟩
      have h1 := hg.below (F1.out.block g hg.lt id) F1.out.size
      have h2 := hg'.below (F1.out.block g' hg'.lt id) F1.out.size
      have d0 := h1.c1 k x hx
      have d1 := h1.c2 k x hx
      have e0 := h2.c1 k x hx
      have e1 := h2.c2 k x hx
      have m1 : (k : Int) < (K.length : Int) := by omega
      have m2 : (0 : Int) ≤ (k : Int) := by omega
      obtain ⟨x1, x2⟩ := x
      simp only at d0 d1 e0 e1
      clear hg hg' h1 h2 hx
      go_wp2_with fail
      go_quiet (fail)
      go_wp2_with fail
      go_round
      case rel => exact ⟨k + 1, by omega, by go_num, F1.out.drewN _⟩
      case measure => simp [intOf]; omega
    · obtain rfl : k = K.length := by omega
      go_wp2_with fail
      go_ret
      exact ⟨rfl, F1.out.toBelow (B := w.heap.size) (Nat.le_refl _) fun _ h => h.elim⟩
end Go.Proofs.Ytjldocpjoiibjaa

namespace Go.Proofs.Ytjldocpjoiibjaa
open Go.RowKit

/-! ### the rows: four cells exchanged -/
theorem own_setAt {w : World} {B n sz g cap i : Nat} {e : TypeId} {xs : List Value} (h : w.ownsRow B e sz (.slice (some ⟨g, 0, none⟩) n cap) n xs) (u : Value) : (w.setCell ⟨g, i, none⟩ u).ownsRow B e sz (.slice (some ⟨g, 0, none⟩) n cap) n (xs.set i u) := by
  refine ⟨by rw [List.length_set]; exact h.1, ?_⟩
  rcases h.2 with ⟨hn, _⟩ | ⟨g2, cap2, cur, he, hb, hg, hc, hm, hs, ht⟩
  · cases hn
  · obtain ⟨e1, _, e3⟩ := Value.slice.inj he
    have hgg : g = g2 := by injection e1 with e1; injection e1
    subst hgg
    subst e3
    refine .inr ⟨g, cap, cur.setIfInBounds i u, rfl, hb, blk_set hg u, hc, hm, by simpa using hs, ?_⟩
    rw [Array.toList_setIfInBounds, List.take_set, ht]
theorem set_far (A r : List Value) (k : Nat) (u : Value) (i : Nat) (h : A.length = k) : (A ++ r).set (k + i) u = A ++ r.set i u := by
  subst h
  rw [List.set_append_right _ _ (by omega)]
  congr 2; omega
/-- x takes the place ahead of it. -/
def swapK (w : World) (g t : Nat) (y x : Int × Int) : World :=
  (((w.setCell ⟨g, (t + 1) * 2, none⟩ (.int .i64 y.1)).setCell ⟨g, (t + 1) * 2 + 1, none⟩ (.int .i64 y.2)).setCell ⟨g, t * 2, none⟩ (.int .i64 x.1)).setCell ⟨g, t * 2 + 1, none⟩ (.int .i64 x.2)
theorem own_swapK {w : World} {B n g cap : Nat} {e : TypeId} {T1 T2 : List (Int × Int)} {x y : Int × Int} (h : w.ownsRow B e 2 (.slice (some ⟨g, 0, none⟩) n cap) n (flatK (T1 ++ y :: x :: T2))) :
    (swapK w g T1.length y x).ownsRow B e 2 (.slice (some ⟨g, 0, none⟩) n cap) n (flatK (T1 ++ x :: y :: T2)) := by
  have h4 := own_setAt (own_setAt (own_setAt (own_setAt h (i := (T1.length + 1) * 2) (.int .i64 y.1)) (i := (T1.length + 1) * 2 + 1) (.int .i64 y.2)) (i := T1.length * 2) (.int .i64 x.1)) (i := T1.length * 2 + 1) (.int .i64 x.2)
  have e1 : flatK (T1 ++ y :: x :: T2) = flatK T1 ++ [.int .i64 y.1, .int .i64 y.2, .int .i64 x.1, .int .i64 x.2] ++ flatK T2 := by simp [flatK]
  have e2 : flatK (T1 ++ x :: y :: T2) = flatK T1 ++ [.int .i64 x.1, .int .i64 x.2, .int .i64 y.1, .int .i64 y.2] ++ flatK T2 := by simp [flatK]
  have hl := flatK_length T1
  rw [e1, List.append_assoc, show (T1.length + 1) * 2 = T1.length * 2 + 2 by omega, show T1.length * 2 + 2 + 1 = T1.length * 2 + 3 by omega,
    set_far _ _ _ _ 2 hl, set_far _ _ _ _ 3 hl, show T1.length * 2 = T1.length * 2 + 0 by omega, set_far _ _ _ _ 0 hl, show T1.length * 2 + 0 + 1 = T1.length * 2 + 1 by omega, set_far _ _ _ _ 1 hl] at h4
  rw [e2, List.append_assoc]
  unfold swapK
  rw [show (T1.length + 1) * 2 = T1.length * 2 + 2 by omega, show T1.length * 2 + 2 + 1 = T1.length * 2 + 3 by omega]
  exact h4
theorem Fr.swapK {S : Nat → Prop} {w0 w : World} (h : Fr S w0 w) {g : Nat} (hg : S g) (t : Nat) (y x : Int × Int) : Fr S w0 (swapK w g t y x) :=
  (((h.setCell ⟨g, (t + 1) * 2, none⟩ hg _).setCell ⟨g, (t + 1) * 2 + 1, none⟩ hg _).setCell ⟨g, t * 2, none⟩ hg _).setCell ⟨g, t * 2 + 1, none⟩ hg _

theorem own_still {w w' : World} {B n sz : Nat} {e : TypeId} {v : Value} {xs : List Value} (h : w.ownsRow B e sz v n xs) (hf : Fr (fun _ => False) w w') : w'.ownsRow B e sz v n xs := by
  refine ⟨h.1, ?_⟩
  rcases h.2 with hn | ⟨g, cap, cur, hv, hb, hg, r⟩
  · exact .inl hn
  · exact .inr ⟨g, cap, cur, hv, hb, (hf.block g (blk_lt hg) id).trans hg, r⟩

theorem own_free {w : World} {B n sz g cap : Nat} {e : TypeId} {xs : List Value} (h : w.ownsRow B e sz (.slice (some ⟨g, 0, none⟩) n cap) n xs) (i : Nat) : w.frozen? ⟨g, i, none⟩ = false := by
  rcases h.2 with ⟨hn, _⟩ | ⟨g2, cap2, cur, he, hb, hg, _⟩
  · cases hn
  · have hgg : g = g2 := by have := (Value.slice.inj he).1; injection this with e; injection e
    rw [hgg]
    exact free_blk hg

/-! ### the plain side -/
def dirtyP (P : List Pb) : List (Int × Int) := (P.filter (·.dirty)).map (·.k)
theorem dirtyP_step {P : List Pb} {k : Nat} {b : Pb} (h : P[k]? = some b) : dirtyP (P.take (k + 1)) = if b.dirty then dirtyP (P.take k) ++ [b.k] else dirtyP (P.take k) := by
  rw [List.take_add_one, h]
  unfold dirtyP
  simp only [Option.toList_some, List.filter_append, List.filter_cons, List.filter_nil, List.map_append]
  cases b.dirty <;> simp
theorem dirtyP_le (P : List Pb) (k : Nat) : (dirtyP (P.take k)).length ≤ k := by
  unfold dirtyP
  rw [List.length_map]
  exact Nat.le_trans (List.length_filter_le _ _) (List.length_take_le _ _)
def Rising (M : List (Int × Int)) : Prop := M.Pairwise fun a b => ¬ keyLt b a
theorem rising_one {A B : List (Int × Int)} (h : Rising A) (h1 : A.Perm B) {B' : List (Int × Int)} (h2 : Rising B') (h3 : B'.Perm B) : A = B' :=
  List.Perm.eq_of_pairwise (le := fun a b => ¬ keyLt b a) (fun a b _ _ h1 h2 => by
    obtain ⟨a1, a2⟩ := a
    obtain ⟨b1, b2⟩ := b
    unfold keyLt at h1 h2
    simp only at h1 h2
    have e1 : a1 = b1 := by omega
    have e2 : a2 = b2 := by omega
    rw [e1, e2]) h h2 (h1.trans h3.symm)
/-- x is put where it belongs. -/
theorem rising_put {T1 T2 : List (Int × Int)} {x : Int × Int} (h : Rising (T1 ++ T2)) (h2 : ∀ d ∈ T2, keyLt x d) (h1 : T1 = [] ∨ ∃ T y, T1 = T ++ [y] ∧ ¬ keyLt x y) : Rising (T1 ++ x :: T2) := by
  have hp := List.pairwise_append.1 h
  refine List.pairwise_append.2 ⟨hp.1, List.pairwise_cons.2 ⟨fun d hd => ?_, hp.2.1⟩, fun a ha d hd => ?_⟩
  · have := h2 d hd
    unfold keyLt at this ⊢
    omega
  · rcases List.mem_cons.1 hd with rfl | hd
    · rcases h1 with rfl | ⟨T, y, rfl, hy⟩
      · cases ha
      · rcases List.mem_append.1 ha with ha | ha
        · have := (List.pairwise_append.1 hp.1).2.2 a ha y (by simp)
          unfold keyLt at this hy ⊢
          omega
        · rw [List.mem_singleton] at ha
          subst ha
          exact hy
    · exact hp.2.2 a ha d hd

set_option maxHeartbeats 8000000 in
set_option maxRecDepth 100000 in
theorem refDirty_any {w : World} {v : Value} {P : List Pb} {room : Int} (h : RefAt w v P) (hl : P.length ≤ 100000) :
    Calls Try.prog 26 #[refV room v] w fun e w' => ∃ v' M, e = .returned v' ∧ KeyRow w' w.heap.size v' M ∧ Rising M ∧ M.Perm (dirtyP P) ∧ Below w.heap.size w w' := by
  obtain ⟨i0, hi, hz0, hz1, hz2⟩ := info_parts infoKeyR
  obtain ⟨a, c, rfl, hcap, hrow⟩ := h
  have HR := Lib.hid hrow
  clear hrow
  unfold refV
  go_enter Try.func26, Try.ntmps26
  go_upto_region 1 with fail
  obtain ⟨w1, hw1⟩ : ∃ w1, w1 = w.alloc (.cells #[.int .i64 room, .slice a P.length c] 52) := ⟨_, rfl⟩
  have bc : w1.heap[w.heap.size]? = some (.cells #[.int .i64 room, .slice a P.length c] 52 (0, 0)) := by rw [hw1]; exact blk_new rfl
  have hb1 : Below w.heap.size w w1 := by rw [hw1]; exact below_alloc (Below.refl _ w) (Nat.le_refl _) _
  rw [← hw1]
  clear hw1
  have x1 : w1.cell? ⟨w.heap.size, 1, none⟩ = some (.slice a P.length c) := cell_blk_some bc rfl
  have BC := Lib.hid bc; have HB1 := Lib.hid hb1
  clear bc hb1
  go_wp2_with fail
  go_loopg [3, 9] P.length (fun f o i wr => ∃ (k : Nat) (M : List (Int × Int)), f + k = P.length ∧ i = .int .i64 k ∧ wr.ownsRow w1.heap.size 55 2 o M.length (flatK M) ∧ Rising M ∧ M.Perm (dirtyP (P.take k)) ∧ Below w1.heap.size w1 wr)
  case atStart => exact ⟨0, [], by omega, rfl, ⟨rfl, .inl ⟨rfl, rfl⟩⟩, List.Pairwise.nil, List.Perm.refl _, Below.refl _ _⟩
  case round =>
    obtain ⟨k, M, hfk, rfl, hown, hris, hperm, hbel⟩ := hrel
    have bcr := blk_below hbel (blk_lt BC.out) BC.out
    have x2 : wr.cell? ⟨w.heap.size, 1, none⟩ = some (.slice a P.length c) := cell_blk_some bcr rfl
    have hMl : M.length ≤ P.length := by rw [hperm.length_eq]; have := dirtyP_le P k; omega
    have RM := Lib.hid hris; have PM := Lib.hid hperm
    clear bcr hris hperm
    by_cases hlt : k < P.length
    · obtain ⟨f, rfl⟩ : ∃ f, gk = f + 1 := ⟨gk - 1, by omega⟩
      obtain ⟨g, rfl, hg⟩ := HR.out (by omega)
      obtain ⟨b, hb⟩ : ∃ b, P[k]? = some b := ⟨_, List.getElem?_eq_getElem hlt⟩
      have hg1 := hg.same (HB1.out.block g hg.lt) HB1.out.size
      have hg2 := hg1.same (hbel.block g hg1.lt) hbel.size
      have d0 := hg2.c0 k b hb
      have d1 := hg2.c1 k b hb
      have d3 := hg2.c3 k b hb
      have m1 : (k : Int) < (P.length : Int) := by omega
      have m2 : (0 : Int) ≤ (k : Int) := by omega
      have hst := dirtyP_step hb
      obtain ⟨⟨k1, k2⟩, bd, bdy, bp⟩ := b
      simp only at d0 d1 d3 hst
      obtain ⟨a4, c4, hsh⟩ := own_shape hown
      subst hsh
      have HBL := Lib.hid hbel; have HOWN := Lib.hid hown
      clear hown hbel hb hg hg1 hg2
      cases bdy
      focus
        rw [if_neg (by simp)] at hst
        have HST := Lib.hid hst
        clear hst
        go_wp2_with fail
        go_roundg f
        case rel => exact ⟨k + 1, M, by omega, by go_num, HOWN.out, RM.out, by rw [HST.out]; exact PM.out, HBL.out⟩
        all_goals omega
      focus
        rw [if_pos rfl] at hst
        have hnew := HOWN.out.alloc (.cells #[.int .i64 k1, .int .i64 k2] 55)
        have HNEW := Lib.hid hnew; have HST := Lib.hid hst
        clear hnew hst
        go_wp2_with (at_builtin; refine wpList_append_own _ rfl _ _ 61 rfl w1.heap.size 55 i0 (.agg #[.int .i64 0, .int .i64 0]) 2 16 Try.underlying61 hi hz0 hz1 hz2 rfl (by decide) _ _ _ rfl HNEW.out ⟨wr.heap.size, 0, none⟩ 1 1 [.int .i64 k1, .int .i64 k2] rfl rfl ?c1 ?c2 ?c3 ?c4 ?c5 ?_)
        case c1 => exact row_cells (blk_new rfl) fun j u hu => by simpa using hu
        case c2 => exact flatK_one [(k1, k2)]
        case c3 => unfold maxLen; omega
        case c4 => omega
        case c5 => simp; exact Nat.le_succ_of_le HBL.out.size
        intro v' w4 hown2 hgr2 _
        have hbw : Below w1.heap.size w1 w4 := (below_alloc HBL.out (Nat.le_refl _) (Obj.cells #[.int .i64 k1, .int .i64 k2] 55)).grown hgr2 (by simp; exact Nat.le_succ_of_le HBL.out.size) (fun k hk => (HNEW.out.lt k hk).1)
        have hfl : flatK M ++ [.int .i64 k1, .int .i64 k2] = flatK (M ++ [(k1, k2)]) := by rw [flatK_append]; rfl
        rw [hfl] at hown2
        obtain ⟨gn, cn, rfl, hgn, -, -⟩ := keys_ownE hown2 (by omega)
        have s1 : IntKind.i64.wrap (M.length : Int) = (M.length : Int) := IntWalk.i64_in _ (by omega)
        have HOW := Lib.hid hown2; have HBW := Lib.hid hbw
        clear hown2 hbw hgr2 hfl HNEW d0 d1 d3 x2 HOWN HBL
        go_wp2_with fail
        go_loopg [5] M.length (fun f2 j wz => ∃ T1 T2, f2 = T1.length ∧ M = T1 ++ T2 ∧ j = .int .i64 (T1.length : Nat) ∧ wz.ownsRow w1.heap.size 55 2 (.slice (some ⟨gn, 0, none⟩) (M.length + 1) cn) (M.length + 1) (flatK (T1 ++ (k1, k2) :: T2)) ∧ (∀ d ∈ T2, keyLt (k1, k2) d) ∧ Below w1.heap.size w1 wz)
        case atStart => exact ⟨M, [], rfl, by simp, by go_num, HOW.out, (fun _ h => by cases h), HBW.out⟩
        case round =>
          obtain ⟨T1, T2, hgk, hM, rfl, hown, hgt, hbel⟩ := hrel
          have hnext : (T1 = [] ∨ ∃ T y, T1 = T ++ [y] ∧ ¬ keyLt (k1, k2) y) → ∀ n, ∃ M', f + (k + 1) = P.length ∧ (wr.drewN n).ownsRow w1.heap.size 55 2 (.slice (some ⟨gn, 0, none⟩) (M.length + 1) cn) (M.length + 1) (flatK M') ∧ M'.length = M.length + 1 ∧ Rising M' ∧ M'.Perm (dirtyP (P.take (k + 1))) ∧ Below w1.heap.size w1 (wr.drewN n) := fun h1 n => by
            have hfd := (Fr.refl (fun _ => False) wr).drewN n
            refine ⟨T1 ++ (k1, k2) :: T2, by omega, own_still hown hfd, ?_, rising_put (by rw [← hM]; exact RM.out) hgt h1, ?_, hbel.trans (hfd.toBelow (B := w1.heap.size) hbel.size fun _ h => h.elim)⟩
            · rw [hM]; simp; omega
            · rw [HST.out]
              refine (List.perm_middle).trans ?_
              rw [← hM]
              exact ((PM.out.cons (k1, k2)).trans (List.perm_append_singleton (k1, k2) _).symm)
          have NX := Lib.hid hnext
          clear hnext
          rcases List.eq_nil_or_concat T1 with rfl | ⟨T, y, hTy⟩
          · have N2 := Lib.hid (NX.out (.inl rfl))
            clear NX hM hown hgt hbel hgk
            go_wp2_with fail
            go_quiet (fail)
            go_wp2_with fail
            go_roundg f
            case rel =>
              obtain ⟨M', h1, h2, h3, h4, h5, h6⟩ := N2.out _
              exact ⟨k + 1, M', by omega, by go_num, by rw [h3]; exact h2, h4, h5, h6⟩
            all_goals omega
          · rw [List.concat_eq_append] at hTy
            subst hTy
            obtain ⟨y1, y2⟩ := y
            obtain ⟨f2, rfl⟩ : ∃ f2, gk = f2 + 1 := ⟨gk - 1, by simp at hgk; omega⟩
            have hgk2 : f2 = T.length := by simp at hgk; omega
            have hlT : T.length + T2.length + 1 = M.length := by rw [hM]; simp; omega
            rw [List.append_assoc, List.singleton_append] at hown
            obtain ⟨gx, cx, hex, -, hka, -⟩ := keys_ownE hown (by omega)
            have hgx : gn = gx := by have := (Value.slice.inj hex).1; injection this with e; injection e
            subst hgx
            have hi0 : (T ++ (y1, y2) :: (k1, k2) :: T2)[T.length]? = some (y1, y2) := by simp
            have hi1 : (T ++ (y1, y2) :: (k1, k2) :: T2)[T.length + 1]? = some (k1, k2) := by rw [List.getElem?_append_right (by omega)]; simp
            have hcell : ∀ n, Fr (fun _ => False) wr (wr.drewN n) := fun n => (Fr.refl _ wr).drewN n
            have hk2 : ∀ n, KeysAt (wr.drewN n) gn (T ++ (y1, y2) :: (k1, k2) :: T2) := fun n => hka.below ((hcell n).block gn hka.lt id) (hcell n).size
            have dn0 := fun n => (hk2 n).c1 _ _ hi0
            have dn1 := fun n => (hk2 n).c2 _ _ hi0
            have dn2 := fun n => (hk2 n).c1 _ _ hi1
            have dn3 := fun n => (hk2 n).c2 _ _ hi1
            have e0 := hka.c1 _ _ hi0
            have e1 := hka.c2 _ _ hi0
            have e2 := hka.c1 _ _ hi1
            have e3 := hka.c2 _ _ hi1
            simp only at e0 e1 e2 e3 dn0 dn1 dn2 dn3
            have m1 : (T.length : Int) + 1 < (M.length : Int) + 1 := by omega
            have m2 : (0 : Int) ≤ (T.length : Int) + 1 := by omega
            have m3 : (T.length : Int) < (M.length : Int) + 1 := by omega
            have m4 : (0 : Int) ≤ (T.length : Int) := by omega
            have m5 : (0 : Int) < (T.length : Int) + 1 := by omega
            have s2 : IntKind.i64.wrap (T.length : Int) = (T.length : Int) := IntWalk.i64_in _ (by omega)
            have DN := Lib.hid (⟨hcell, hk2⟩ : (∀ n, Fr (fun _ => False) wr (wr.drewN n)) ∧ ∀ n, KeysAt (wr.drewN n) gn (T ++ (y1, y2) :: (k1, k2) :: T2))
            have OW := Lib.hid hown; have GT := Lib.hid hgt; have BL := Lib.hid hbel; have EM := Lib.hid hM
            clear hcell hk2 hka hi0 hi1 hown hgt hbel hM hex dn0 dn1 dn2 dn3 hgk
            by_cases hlt2 : keyLt (k1, k2) (y1, y2)
            · have hq : decide (k1 < y1) = true ∨ (k1 = y1 ∧ decide (k2 < y2) = true) := by
                rcases hlt2 with h | ⟨h1, h2⟩
                · exact .inl (decide_eq_true h)
                · exact .inr ⟨h1, decide_eq_true h2⟩
              have HLT := Lib.hid hlt2
              clear hlt2 NX
              rcases hq with q1 | ⟨heq, q1⟩
              focus
                go_wp2_with fail
                go_quiet (fail)
                go_upto_region 10 with fail
              rotate_left
              focus
                have q0 : decide (k1 < y1) = false := decide_eq_false (by omega)
                have q2 : (k1 == y1) = true := beq_iff_eq.2 heq
                clear heq
                go_wp2_with fail
                go_quiet (fail)
                go_upto_region 10 with fail
              all_goals
                clear e0 e1 e2 e3
                generalize hwq : World.drewN wr _ = wq
                obtain ⟨n, hn⟩ : ∃ n, wr.drewN n = wq := ⟨_, hwq⟩
                have hF := DN.out.1 n
                have hka := DN.out.2 n
                rw [hn] at hF hka
                have hown := own_still OW.out hF
                have hi0 : (T ++ (y1, y2) :: (k1, k2) :: T2)[T.length]? = some (y1, y2) := by simp
                have hi1 : (T ++ (y1, y2) :: (k1, k2) :: T2)[T.length + 1]? = some (k1, k2) := by rw [List.getElem?_append_right (by omega)]; simp
                have e0 := hka.c1 _ _ hi0
                have e1 := hka.c2 _ _ hi0
                have e2 := hka.c1 _ _ hi1
                have e3 := hka.c2 _ _ hi1
                simp only at e0 e1 e2 e3
                have z0 := own_free hown (T.length * 2)
                have z1 := own_free hown (T.length * 2 + 1)
                have z2 := own_free hown ((T.length + 1) * 2)
                have z3 := own_free hown ((T.length + 1) * 2 + 1)
                have hbq : Below w1.heap.size w1 wq := BL.out.trans (hF.toBelow (B := w1.heap.size) BL.out.size fun _ h => h.elim)
                have OQ := Lib.hid hown; have BQ := Lib.hid hbq
                clear hn hwq hF hka hown hi0 hi1 hbq DN OW BL
                go_region
                have own7 := own_swapK OQ.out
                have f7 := ((Fr.refl (fun y => y = gn) wq).swapK rfl T.length (y1, y2) (k1, k2)).drew
                have own8 := own_still own7 (Fr.refl (fun _ => False) _).drew
                unfold swapK at own8 f7
                simp only at own8 f7
                generalize ((((wq.setCell ⟨gn, (T.length + 1) * 2, none⟩ (.int .i64 y1)).setCell ⟨gn, (T.length + 1) * 2 + 1, none⟩ (.int .i64 y2)).setCell ⟨gn, T.length * 2, none⟩ (.int .i64 k1)).setCell ⟨gn, T.length * 2 + 1, none⟩ (.int .i64 k2)).drew = w7 at own8 f7 ⊢
                have hb7 : Below w1.heap.size w1 w7 := BQ.out.trans (f7.toBelow (B := w1.heap.size) BQ.out.size fun x hx => by rw [show x = gn from hx]; exact hgn)
                have O7 := Lib.hid own8; have B7 := Lib.hid hb7
                have hgt7 : ∀ d ∈ (y1, y2) :: T2, keyLt (k1, k2) d := fun d hd => by
                  rcases List.mem_cons.1 hd with rfl | hd
                  · exact HLT.out
                  · exact GT.out d hd
                have G7 := Lib.hid hgt7
                clear own7 own8 f7 hb7 hgt7 e0 e1 e2 e3 z0 z1 z2 z3 OQ BQ
                go_wp2_with fail
                go_roundg f2
                case rel => exact ⟨T, (y1, y2) :: T2, hgk2, by rw [EM.out]; simp, by go_num, O7.out, G7.out, B7.out⟩
                all_goals omega
            · have N2 := Lib.hid (NX.out (.inr ⟨T, (y1, y2), by simp, hlt2⟩))
              have q1 : decide (k1 < y1) = false := decide_eq_false fun h => hlt2 (.inl h)
              clear NX
              by_cases heq : k1 = y1
              focus
                have q3 : decide (k2 < y2) = false := decide_eq_false fun h => hlt2 (.inr ⟨heq, h⟩)
                subst heq
                clear hlt2
                go_wp2_with fail
                go_quiet (fail)
                go_wp2_with fail
              rotate_left
              focus
                have q2 : (k1 == y1) = false := beq_eq_false_iff_ne.2 heq
                clear hlt2 heq
                go_wp2_with fail
                go_quiet (fail)
                go_wp2_with fail
              all_goals
                go_roundg f
                case rel =>
                  obtain ⟨M', h1, h2, h3, h4, h5, h6⟩ := N2.out _
                  exact ⟨k + 1, M', by omega, by go_num, by rw [h3]; exact h2, h4, h5, h6⟩
                all_goals omega
    · obtain rfl : k = P.length := by omega
      have HOW := Lib.hid hown; have HBW := Lib.hid hbel
      clear hown hbel
      go_wp2_with fail
      go_ret
      have hpm := PM.out
      rw [List.take_length] at hpm
      obtain ⟨a', c', he, h2⟩ := KeyRow.own HOW.out
      refine ⟨_, M, rfl, ⟨a', c', he, fun h0 => ?_⟩, RM.out, hpm, HB1.out.trans (HBW.out.mono HB1.out.size)⟩
      obtain ⟨g, e1, e2, e3⟩ := h2 h0
      exact ⟨g, e1, Nat.le_trans HB1.out.size e2, e3⟩
end Go.Proofs.Ytjldocpjoiibjaa
