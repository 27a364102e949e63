/- Walk of the reference's Walk: its paths, put in their order one by one. -/
import Derived.Test.YtoofcnehoffllaaGreatR23
import Derived.Test.YtoofcnehoffllaaGreatT28
namespace Go.Proofs.YtoofcnehoffllaaGreat
open Go.RowKit

section
variable {w : World} {B g n c : Nat} {xs : List Value}
/-- A text of a row laid anew. -/
theorem own_setS (h : w.ownsRow B 9 1 (.slice (some ⟨g, 0, none⟩) n c) n xs) (j : Nat) (z : ByteArray) : (w.setCell ⟨g, j, none⟩ (.string z)).ownsRow B 9 1 (.slice (some ⟨g, 0, none⟩) n c) n (xs.set j (.string z)) := by
  refine ⟨by rw [List.length_set]; exact h.1, ?_⟩
  rcases h.2 with ⟨h1, h2⟩ | ⟨g', cap, cur, h1, h2, h3, h4, h5, h6, h7⟩
  · injection h1 with e1; cases e1
  · injection h1 with e1 _ e3
    injection e1 with e1
    injection e1 with e1
    subst e1 e3
    refine .inr ⟨g, c, _, rfl, h2, blk_set h3 (.string z), h4, h5, by rw [Array.size_setIfInBounds]; exact h6, ?_⟩
    rw [Array.toList_setIfInBounds, List.take_set, h7]
end
/-- The order of paths. -/
def leB (a b : ByteArray) : Prop := a.data.toList ≤ b.data.toList
def Rising (l : List ByteArray) : Prop := l.Pairwise leB
/-- One more, x, among those that rise: A ahead of it, B behind it, C not yet come. -/
structure Ins (X A : List ByteArray) (x : ByteArray) (Bs C : List ByteArray) (i : Nat) : Prop where
  eq : X = A ++ x :: (Bs ++ C)
  len : A.length + Bs.length = i
  ris : Rising (A ++ Bs)
  low : ∀ b ∈ Bs, x.data.toList < b.data.toList
theorem Ins.done {X A Bs C : List ByteArray} {x : ByteArray} {i : Nat} (h : Ins X A x Bs C i) (hl : ∀ a, A.getLast? = some a → ¬ x.data.toList < a.data.toList) : Rising (X.take (i + 1)) := by
  have ht : X.take (i + 1) = A ++ x :: Bs := by
    rw [h.eq, show A ++ x :: (Bs ++ C) = (A ++ x :: Bs) ++ C by simp]
    exact List.take_left' (by rw [List.length_append, List.length_cons]; have := h.len; omega)
  rw [ht]
  obtain ⟨p1, p2, p3⟩ := List.pairwise_append.1 h.ris
  refine List.pairwise_append.2 ⟨p1, List.pairwise_cons.2 ⟨fun b hb => List.le_of_lt (h.low b hb), p2⟩, fun a ha b hb => ?_⟩
  have hax : leB a x := by
    rcases List.eq_nil_or_concat A with rfl | ⟨A', z, rfl⟩
    · cases ha
    · have hz : ¬ x.data.toList < z.data.toList := hl z (by simp)
      have hzx : leB z x := List.not_lt.1 hz
      rw [List.concat_eq_append] at ha p1
      rcases List.mem_append.1 ha with ha | ha
      · have := (List.pairwise_append.1 p1).2.2 a ha z (by simp)
        exact List.le_trans this hzx
      · rw [List.mem_singleton.1 ha]; exact hzx
  rcases List.mem_cons.1 hb with rfl | hb
  · exact hax
  · exact p3 a ha b hb
theorem Ins.step {X A' Bs C : List ByteArray} {a x : ByteArray} {i : Nat} (h : Ins X (A' ++ [a]) x Bs C i) (hl : x.data.toList < a.data.toList) : Ins ((X.set (A'.length + 1) a).set A'.length x) A' x (a :: Bs) C i := by
  have he : X = A' ++ a :: x :: (Bs ++ C) := by rw [h.eq]; simp
  refine ⟨?_, ?_, ?_, fun b hb => ?_⟩
  · rw [he, List.set_append_right _ _ (by omega), Nat.add_sub_cancel_left]
    show (A' ++ a :: a :: (Bs ++ C)).set A'.length x = _
    rw [List.set_append_right _ _ (Nat.le_refl _), Nat.sub_self]
    rfl
  · have := h.len
    rw [List.length_append, List.length_singleton] at this
    rw [List.length_cons]; omega
  · have := h.ris
    rw [List.append_assoc] at this
    exact this
  · rcases List.mem_cons.1 hb with rfl | hb
    · exact hl
    · exact h.low b hb
theorem Ins.perm {X A' Bs C : List ByteArray} {a x : ByteArray} {i : Nat} (h : Ins X (A' ++ [a]) x Bs C i) : ((X.set (A'.length + 1) a).set A'.length x).Perm X := by
  have he : X = A' ++ a :: x :: (Bs ++ C) := by rw [h.eq]; simp
  have h2 : (X.set (A'.length + 1) a).set A'.length x = A' ++ x :: a :: (Bs ++ C) := by
    rw [he, List.set_append_right _ _ (by omega), Nat.add_sub_cancel_left]
    show (A' ++ a :: a :: (Bs ++ C)).set A'.length x = _
    rw [List.set_append_right _ _ (Nat.le_refl _), Nat.sub_self]
    rfl
  rw [h2, he]
  exact (List.Perm.swap _ _ _).append_left _
theorem Ins.start {X : List ByteArray} {i : Nat} {x : ByteArray} (h : Rising (X.take i)) (hx : X[i]? = some x) : Ins X (X.take i) x [] (X.drop (i + 1)) i := by
  have hi : i < X.length := (List.getElem?_eq_some_iff.1 hx).1
  refine ⟨?_, ?_, by rw [List.append_nil]; exact h, fun b hb => by cases hb⟩
  · rw [List.nil_append, ← (List.getElem?_eq_some_iff.1 hx).2, List.getElem_cons_drop, List.take_append_drop]
  · rw [List.length_take]; simp; omega
section
variable {D : Nat → Prop} {w : World} {v : Value} {cap : Nat} {M : TM}
set_option maxHeartbeats 8000000 in
set_option maxRecDepth 100000 in
theorem refWalk_any (h : RefIs D w v cap (refM M)) (hG : Good M cap) :
    Calls Tryz.prog 31 #[treeV v] w fun e w' => ∃ u l, e = .returned u ∧ WalkIs M l ∧ l.length ≤ 20100 ∧ w'.ownsRow w.heap.size 9 1 u l.length (l.map Value.string) ∧ Below w.heap.size w w' := by
  have hcap := h.1
  obtain ⟨g, c, hvv, hD, hg, hn⟩ := h.at_
  subst hvv
  obtain ⟨ht1, ht2⟩ := top_new w (.slice (some ⟨g, 0, none⟩) cap c)
  have HB0 := Lib.hid ht1; have HT0 := Lib.hid ht2
  have HBL := Lib.hid (refBelow_any hG 256 [] 2 _ rfl hG.1.ok.root (by simp) (h.below ht1))
  have HG := Lib.hid hG
  clear h hG hn ht1 ht2
  unfold treeV at HBL ⊢
  rw [← path_root] at HBL
  go_enter Tryz.func31, Tryz.ntmps31
  go_wp2_with fail
  refine HBL.out.mono ?_
  rintro e w1 ⟨u, LL, rfl, hbl, hown, hb1⟩
  have hle := below_le HG.out.1 hcap (lp := []) (i := 2) rfl hbl.1 (fun l hl => (hbl.2 l).1 hl)
  have htx : txtAt M [] LL = (LL.map (pathAt M)).map Value.string := by unfold txtAt; rw [List.map_map]; rfl
  rw [htx] at hown
  obtain ⟨P0, hP0⟩ : ∃ P0, P0 = LL.map (pathAt M) := ⟨_, rfl⟩
  have hPl : P0.length = LL.length := by rw [hP0, List.length_map]
  rw [← hP0, ← hPl] at hown
  have HPW : Hid (∀ l : List ByteArray, l.Perm P0 → Rising l → WalkIs M l) := Lib.hid fun l hp hr => ⟨List.pairwise_map.2 hr, LL, hbl, by rw [← hP0]; exact hp⟩
  have hown : w1.ownsRow w.heap.size 9 1 u P0.length (P0.map Value.string) := own_mono hown HB0.out.size
  have HOW := Lib.hid hown
  have HB1 := Lib.hid (below_call HB0.out hb1 (Nat.le_refl _))
  obtain ⟨ua, uc, rfl⟩ := own_shape hown
  have hN : P0.length ≤ 20100 := by omega
  have hsz1 := HB1.out.size
  clear hle htx hbl hb1 HBL hP0 hPl hown
  generalize hNN : P0.length = N at *
  have HNN := Lib.hid hNN
  clear hNN
  go_wp2_with fail
  go_loopw [10] (fun idx wy => ∃ (i : Nat) (X : List ByteArray), i ≤ N ∧ idx = .int .i64 i ∧ X.Perm P0 ∧ Rising (X.take i) ∧ wy.ownsRow w.heap.size 9 1 (.slice ua N uc) N (X.map Value.string) ∧ Below w.heap.size w wy) (fun idx _ => N - (RowKit.intOf idx).toNat)
  case atStart => exact ⟨0, P0, by omega, rfl, List.Perm.refl _, by rw [List.take_zero]; exact List.Pairwise.nil, HOW.out, HB1.out⟩
  case round =>
    obtain ⟨i, X, hi, rfl, hpm, hris, how, hby⟩ := hrel
    have HPM := Lib.hid hpm; have HRI := Lib.hid hris; have HO := Lib.hid how; have HBY := Lib.hid hby
    have hXl : X.length = N := by rw [hpm.length_eq]; exact HNN.out
    have HXL := Lib.hid hXl
    clear hpm hris how hby hXl HOW
    by_cases hlt : i < N
    · obtain ⟨x, hx⟩ : ∃ x, X[i]? = some x := ⟨_, List.getElem?_eq_getElem (by rw [HXL.out]; exact hlt)⟩
      obtain ⟨gr, cr, he, -, hgB, -, -⟩ := own_cells HO.out (by omega)
      obtain ⟨h1, -, h3⟩ := Value.slice.inj he
      subst h1 h3
      have HI0 := Lib.hid (Ins.start HRI.out hx)
      have HGB := Lib.hid hgB
      clear hx he HRI
      go_wp2_with fail
      go_loopw [5] (fun kv wy => ∃ (k : Nat) (X A Bs C : List ByteArray), kv = .int .i64 k ∧ A.length = k ∧ k ≤ i ∧ X.Perm P0 ∧ Ins X A x Bs C i ∧ wy.ownsRow w.heap.size 9 1 (.slice (some ⟨gr, 0, none⟩) N uc) N (X.map Value.string) ∧ Below w.heap.size w wy) (fun kv _ => (RowKit.intOf kv).toNat)
      case atStart => exact ⟨i, X, _, _, _, rfl, by rw [List.length_take, HXL.out]; omega, Nat.le_refl _, HPM.out, HI0.out, HO.out, HBY.out⟩
      case round =>
        obtain ⟨k, X, A, Bs, C, rfl, hA, hki, hpm, hins, how, hby⟩ := hrel
        have HPM2 := Lib.hid hpm; have HIN := Lib.hid hins; have HO2 := Lib.hid how; have HBY2 := Lib.hid hby
        have hXl : X.length = N := by rw [hpm.length_eq]; exact HNN.out
        have HXL2 := Lib.hid hXl
        have hkN : k < N := by omega
        have hxk : X[k]? = some x := by rw [hins.eq, List.getElem?_append_right (by omega), hA, Nat.sub_self]; rfl
        have hcell : ∀ (j : Nat) y, X[j]? = some y → wr.cell? ⟨gr, j, none⟩ = some (.string y) := fun j y hy => by
          obtain ⟨g', c', he', -, -, -, hc⟩ := own_cells how (by omega)
          obtain ⟨h1, -, -⟩ := Value.slice.inj he'
          have hg' : gr = g' := by injection h1 with h1; injection h1
          subst hg'
          exact hc j _ (by rw [List.getElem?_map, hy]; rfl)
        have c1 := hcell k x hxk
        have kk0 : (0 : Int) ≤ (k : Int) := by omega
        have kk1 : (k : Int) < (N : Int) := by omega
        clear hpm hins how hby hXl hxk HI0 HO HPM HBY HXL
        by_cases hk0 : 0 < k
        · obtain ⟨A', a, rfl⟩ : ∃ A' a, A = A' ++ [a] := by
            rcases List.eq_nil_or_concat A with rfl | ⟨A', a, rfl⟩
            · simp at hA; omega
            · exact ⟨A', a, List.concat_eq_append⟩
          rw [List.length_append, List.length_singleton] at hA
          obtain ⟨m, hAm⟩ : ∃ m, A'.length = m := ⟨_, rfl⟩
          have hxm : X[m]? = some a := by rw [HIN.out.eq, List.append_assoc, List.getElem?_append_right (by omega), hAm, Nat.sub_self]; rfl
          have c2 := hcell m a hxm
          have km : (k : Int) - 1 = (m : Int) := by omega
          have m0 : (0 : Int) ≤ (m : Int) := by omega
          have m1 : (m : Int) < (N : Int) := by omega
          have kp : (0 : Int) < (k : Int) := by omega
          have HA := Lib.hid hA; have HAM := Lib.hid hAm
          clear hxm hcell hA hAm
          by_cases hless : x.data.toList < a.data.toList
          · have q := less_true hless
            go_wp2_with fail
            go_quiet (fail)
            have HBY3 := Lib.hid (below_drewN HBY2.out nq)
            have HO3 : Hid ((wr.drewN nq).ownsRow w.heap.size 9 1 (.slice (some ⟨gr, 0, none⟩) N uc) N (X.map Value.string)) := Lib.hid HO2.out
            have c1' : (wr.drewN nq).cell? ⟨gr, k, none⟩ = some (.string x) := c1
            have c2' : (wr.drewN nq).cell? ⟨gr, m, none⟩ = some (.string a) := c2
            clear c1 c2
            generalize wr.drewN nq = w2 at *
            obtain ⟨cur, hblk⟩ : ∃ cur, w2.heap[gr]? = some (.cells cur 9 (0, 0)) := by
              rcases HO3.out.2 with ⟨h1, h2⟩ | ⟨g', cap', cur, h1, h2, h3, h4, h5, h6, h7⟩
              · injection h1 with e1; cases e1
              · injection h1 with e1 _ e3
                injection e1 with e1
                injection e1 with e1
                subst e1
                exact ⟨cur, h3⟩
            have f1 := free_blk (i := k) hblk
            have f2 := free_blk (i := m) hblk
            clear hblk
            go_wp2_with fail
            go_region
            have hgB := HGB.out
            have HBY4 : Hid (Below w.heap.size w ((w2.setCell ⟨gr, k, none⟩ (.string a)).setCell ⟨gr, m, none⟩ (.string x)).drew) := Lib.hid (((HBY3.out.setCell hgB _).setCell hgB _).drew)
            have HO4 : Hid (((w2.setCell ⟨gr, k, none⟩ (.string a)).setCell ⟨gr, m, none⟩ (.string x)).drew.ownsRow w.heap.size 9 1 (.slice (some ⟨gr, 0, none⟩) N uc) N (((X.set k a).set m x).map Value.string)) := Lib.hid (by
              have h := own_setS (own_setS HO3.out k a) m x
              rw [List.map_set, List.map_set]
              exact h)
            have HPM4 : Hid (((X.set k a).set m x).Perm P0) := Lib.hid (by
              have h := HIN.out.perm
              rw [HA.out, HAM.out] at h
              exact h.trans HPM2.out)
            have HIN4 : Hid (Ins ((X.set k a).set m x) A' x (a :: Bs) C i) := Lib.hid (by
              have h := HIN.out.step hless
              rw [HA.out, HAM.out] at h
              exact h)
            clear c1' c2' f1 f2 HO3 HBY3 q
            generalize ((w2.setCell ⟨gr, k, none⟩ (.string a)).setCell ⟨gr, m, none⟩ (.string x)).drew = w3 at *
            go_wp2_with fail
            go_roundw
            case rel => exact ⟨m, _, _, _, _, rfl, HAM.out, by omega, HPM4.out, HIN4.out, HO4.out, HBY4.out⟩
            case measure => simp only [RowKit.intOf]; omega
          · have q := less_false hless
            go_wp2_with fail
            go_quiet (fail)
            have HBY3 := Lib.hid (below_drewN HBY2.out nq)
            have HO3 : Hid ((wr.drewN nq).ownsRow w.heap.size 9 1 (.slice (some ⟨gr, 0, none⟩) N uc) N (X.map Value.string)) := Lib.hid HO2.out
            have HR3 : Hid (Rising (X.take (i + 1))) := Lib.hid (HIN.out.done fun b hb => by
              rw [List.getLast?_concat] at hb
              rw [← Option.some.inj hb]
              exact hless)
            clear c1 c2 hless q
            generalize wr.drewN nq = w2 at *
            go_wp2_with fail
            exact ⟨⟨i + 1, X, by omega, by go_num, HPM2.out, HR3.out, HO3.out, HBY3.out⟩, by simp only [RowKit.intOf]; omega⟩
        · obtain rfl : k = 0 := by omega
          have HR3 : Hid (Rising (X.take (i + 1))) := Lib.hid (HIN.out.done fun b hb => by
            rw [List.eq_nil_of_length_eq_zero hA] at hb
            cases hb)
          clear c1 kk0 kk1 hcell hA
          go_wp2_with fail
          go_quiet (fail)
          have HBY3 := Lib.hid (below_drewN HBY2.out nq)
          have HO3 : Hid ((wr.drewN nq).ownsRow w.heap.size 9 1 (.slice (some ⟨gr, 0, none⟩) N uc) N (X.map Value.string)) := Lib.hid HO2.out
          generalize wr.drewN nq = w2 at *
          go_wp2_with fail
          exact ⟨⟨i + 1, X, by omega, by go_num, HPM2.out, HR3.out, HO3.out, HBY3.out⟩, by simp only [RowKit.intOf]; omega⟩
    · obtain rfl : i = N := by omega
      have HW : Hid (WalkIs M X) := Lib.hid (HPW.out X HPM.out (by
        have h := HRI.out
        rw [List.take_of_length_le (by rw [HXL.out]; exact Nat.le_refl _)] at h
        exact h))
      go_wp2_with fail
      go_ret
      exact ⟨_, X, rfl, HW.out, by rw [HXL.out]; omega, by rw [HXL.out]; exact HO.out, HBY.out⟩
end
end Go.Proofs.YtoofcnehoffllaaGreat
