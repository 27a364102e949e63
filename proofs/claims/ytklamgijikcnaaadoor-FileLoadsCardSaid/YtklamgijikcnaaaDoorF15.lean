/- Walk of file's Set. -/
import Derived.Test.YtklamgijikcnaaaDoorF14
namespace Go.Proofs.YtklamgijikcnaaaDoor
open Go.RowKit

/-- What Set and Cut leave: the answer in a row of its own; the map. -/
def SetRes (w : World) (fb : Nat) (F : Nat → Prop) (d : Int → Int) (m : MM) (l : List Int) (e : Ending) (w' : World) : Prop :=
  ∃ v F', e = .returned (.tuple #[v, .int .i64 0]) ∧ OwnI w' w.heap.size v l ∧ FAt w' fb d m F' ∧ Aft w w' F F'
section
variable {w : World} {fb : Nat} {d : Int → Int} {m : MM} {F : Nat → Prop}
set_option maxRecDepth 100000 in
theorem set_same {n a : Int} (hF : FAt w fb d m F) (hn : 0 ≤ n ∧ n < 600) (ha : 0 ≤ a ∧ a < 4096) (h1 : d n = a) :
    Calls Tryd.prog 11 #[.pointer (some ⟨fb, 0, none⟩), .int .i64 n, .int .i64 a] w (SetRes w fb F d m []) := by
  obtain ⟨a0, a1⟩ := ha
  obtain ⟨k, rfl, hk⟩ : ∃ k : Nat, n = k ∧ k < 600 := ⟨n.toNat, by omega, by omega⟩
  have HL := Lib.hid (level_ok (findN_data hk) hF.span)
  have HF := Lib.hid hF
  have q1 : (d (k : Int) == a) = true := beq_iff_eq.2 h1
  clear hF h1
  go_enter Tryd.func11, Tryd.ntmps11
  go_wp2_with fail
  refine HL.out.mono ?_
  rintro e w1 ⟨rfl, kd, hw1⟩
  have hb1 : Below w.heap.size w w1 := by rw [hw1]; exact below_drewN (Below.refl _ _) _
  have hF1 := HF.out.below hb1
  obtain ⟨db, mb, P, hin, _⟩ := hF1.ex
  have c0 := cell_blk_some hin.top (i := 0) rfl
  have lkd := hin.lookD k
  have HF1 := Lib.hid hF1; have HB1 := Lib.hid hb1
  clear hw1 hb1 hF1 hin HL
  go_wp2_with fail
  go_ret2
  exact ⟨_, F, rfl, IntsAt.nil _ _ _, HF1.out, Aft.below HB1.out⟩
set_option maxHeartbeats 2000000 in
set_option maxRecDepth 100000 in
theorem set_new {n a : Int} (hF : FAt w fb d m F) (hI : Inv d m) (hn : 0 ≤ n ∧ n < 600) (ha : 0 < a ∧ a < 4096) (h1 : d n = 0) :
    Calls Tryd.prog 11 #[.pointer (some ⟨fb, 0, none⟩), .int .i64 n, .int .i64 a] w (SetRes w fb F (setD d n a) (needM 4 m n) []) := by
  obtain ⟨a0, a1⟩ := ha
  obtain ⟨k, rfl, hk⟩ : ∃ k : Nat, n = k ∧ k < 600 := ⟨n.toNat, by omega, by omega⟩
  have HL := Lib.hid (level_ok (findN_data hk) hF.span)
  have HF := Lib.hid hF
  have ha0 : a ≠ 0 := by omega
  have q1 : ((0 : Int) == a) = false := beq_eq_false_iff_ne.2 (by omega)
  have q2 : (a == 0) = false := beq_eq_false_iff_ne.2 (by omega)
  have hnn : (k : Int) ∈ nodesN := mem_nodes.2 (.inl ⟨by omega, by omega⟩)
  have HA := Lib.hid ha0
  have HI := Lib.hid hI.few
  have H1 := Lib.hid h1
  clear hF h1 ha0 hI
  go_enter Tryd.func11, Tryd.ntmps11
  go_wp2_with fail
  refine HL.out.mono ?_
  rintro e w1 ⟨rfl, kd, hw1⟩
  have hb1 : Below w.heap.size w w1 := by rw [hw1]; exact below_drewN (Below.refl _ _) _
  have hF1 := HF.out.below hb1
  obtain ⟨db, mb, P, hin, _⟩ := hF1.ex
  have c0 := cell_blk_some hin.top (i := 0) rfl
  have lkd := hin.lookD k
  rw [H1.out] at lkd
  have HF1 := Lib.hid hF1; have HB1 := Lib.hid hb1
  clear hw1 hb1 hF1 hin HL
  go_wp2_with fail
  refine (told_zero _).mono ?_
  rintro e w2 ⟨rfl, rfl⟩
  clear c0 lkd
  go_wp2_with fail
  refine (need_any HF1.out hnn HI.out).mono ?_
  rintro e w3 ⟨rfl, F', hF3, hA3⟩
  obtain ⟨db, mb, P, hin, hft⟩ := hF3.ex
  have c0 := cell_blk_some hin.top (i := 0) rfl
  obtain ⟨w4, hup, hin4, hf4⟩ := hin.putData (k : Int) HA.out
  have hFd : F' db := hft db (.inr (.inl rfl))
  have hF4 : FAt w4 fb (setD d k a) (needM 4 m k) F' := ⟨⟨db, mb, P, hin4, hft⟩, fun x hx => Nat.lt_of_lt_of_le (hF3.lt x hx) hf4.size, hF3.off, hF3.span.fr hf4 fun e => hF3.off (by rw [e]; exact hFd)⟩
  have hA4 := (Aft.below (F := F) HB1.out).trans (hA3.trans (Aft.same hf4 fun x hx => by rw [hx]; exact hFd))
  have HF4 := Lib.hid hF4; have HA4 := Lib.hid hA4
  clear hF3 hA3 hin hft hin4 hf4 hFd hF4 hA4
  have hso := Lib.hid (fun w => Tryd.slices_Sort_int_none none 0 w)
  go_wp2_with fail
  refine (hso.out _).mono ?_
  rintro e w5 ⟨rfl, rfl⟩
  go_wp2_with fail
  go_ret2
  exact ⟨_, F', rfl, IntsAt.nil _ _ _, HF4.out, HA4.out⟩
set_option maxHeartbeats 2000000 in
set_option maxRecDepth 100000 in
theorem set_over {n a : Int} (hF : FAt w fb d m F) (hn : 0 ≤ n ∧ n < 600) (ha : 0 < a ∧ a < 4096) (h1 : d n ≠ a) (h2 : d n ≠ 0) :
    Calls Tryd.prog 11 #[.pointer (some ⟨fb, 0, none⟩), .int .i64 n, .int .i64 a] w (SetRes w fb F (setD d n a) m [d n]) := by
  obtain ⟨a0, a1⟩ := ha
  obtain ⟨k, rfl, hk⟩ : ∃ k : Nat, n = k ∧ k < 600 := ⟨n.toNat, by omega, by omega⟩
  have HL := Lib.hid (level_ok (findN_data hk) hF.span)
  have HF := Lib.hid hF
  have ha0 : a ≠ 0 := by omega
  have q1 : (d (k : Int) == a) = false := beq_eq_false_iff_ne.2 h1
  have q2 : (a == 0) = false := beq_eq_false_iff_ne.2 (by omega)
  have q3 : (d (k : Int) == 0) = false := beq_eq_false_iff_ne.2 h2
  have HA := Lib.hid ha0
  have H2 := Lib.hid h2
  clear hF h1 ha0 h2
  go_enter Tryd.func11, Tryd.ntmps11
  go_wp2_with fail
  refine HL.out.mono ?_
  rintro e w1 ⟨rfl, kd, hw1⟩
  have hb1 : Below w.heap.size w w1 := by rw [hw1]; exact below_drewN (Below.refl _ _) _
  have hF1 := HF.out.below hb1
  obtain ⟨db, mb, P, hin, _⟩ := hF1.ex
  have c0 := cell_blk_some hin.top (i := 0) rfl
  have lkd := hin.lookD k
  have HF1 := Lib.hid hF1; have HB1 := Lib.hid hb1
  clear hw1 hb1 hF1 hin HL
  go_wp2_with fail
  refine (told_any _ _).mono ?_
  rintro e w2 ⟨v, rfl, ho, hb2⟩
  have hv : toldL (d (k : Int)) = [d (k : Int)] := by unfold toldL; rw [if_neg H2.out]
  rw [hv] at ho
  have hF2 := HF1.out.below hb2
  obtain ⟨db, mb, P, hin, hft⟩ := hF2.ex
  have c2 := cell_blk_some hin.top (i := 0) rfl
  obtain ⟨w4, hup, hin4, hf4⟩ := hin.putData (k : Int) HA.out
  have hFd : F db := hft db (.inr (.inl rfl))
  have hdb : db < w1.heap.size := HF1.out.lt db hFd
  have hF4 : FAt w4 fb (setD d k a) m F := ⟨⟨db, mb, P, hin4, hft⟩, fun x hx => Nat.lt_of_lt_of_le (hF2.lt x hx) hf4.size, hF2.off, hF2.span.fr hf4 fun e => hF2.off (by rw [e]; exact hFd)⟩
  have hA4 := (Aft.below (F := F) (below_call HB1.out hb2 (Nat.le_refl _))).trans (Aft.same hf4 fun x hx => by rw [hx]; exact hFd)
  have ho4 : OwnI w4 w1.heap.size v [d (k : Int)] := ho.fr hf4 fun g hg e => by have := (ho.lt g hg).1; omega
  have hso := Lib.hid (sort_own ho4 (by simp))
  have hoffF : ∀ x, F x → ¬ v.ownBlock = some x := fun x hx e => by
    have h1 := (ho.lt x e).1
    have h2 := HF1.out.lt x hx
    omega
  have h01 : 0 < w1.heap.size := by have := HF1.out.span.lt; omega
  obtain ⟨xx, cc, rfl⟩ := ho.shape
  have HF4 := Lib.hid hF4; have HA4 := Lib.hid hA4; have HO4 := Lib.hid ho4; have HOF := Lib.hid hoffF
  clear hv ho hb2 hF2 hin hft hin4 hf4 hFd hF4 hA4 ho4 hoffF c0 lkd
  go_wp2_with fail
  refine hso.out.mono ?_
  rintro e w5 ⟨rfl, ho5, hf5⟩
  have hs1 : sortI [d (k : Int)] = [d (k : Int)] := by unfold sortI; rw [List.mergeSort_singleton]
  rw [hs1] at ho5
  have HO5 := Lib.hid ho5; have HF5 := Lib.hid hf5
  clear ho5 hf5 hs1 hso
  go_wp2_with fail
  go_ret2
  have hs := HB1.out.size
  refine ⟨_, F, rfl, HO5.out.mono hs, HF4.out.fr HF5.out HOF.out (fun e => ?_), HA4.out.fr.trans' HF5.out (fun x hx e => ?_), fun _ h => .inl h⟩
  · have := (HO4.out.lt _ e).1
    omega
  · have := (HO4.out.lt x e).1
    omega
set_option maxHeartbeats 2000000 in
set_option maxRecDepth 100000 in
theorem set_zero {n : Int} (hF : FAt w fb d m F) (hI : Inv d m) (hn : 0 ≤ n ∧ n < 600) (h1 : d n ≠ 0) :
    Calls Tryd.prog 11 #[.pointer (some ⟨fb, 0, none⟩), .int .i64 n, .int .i64 0] w (SetRes w fb F (setD d n 0) (leaveM 4 m n).1 (sortI (toldL (d n) ++ (leaveM 4 m n).2))) := by
  have hJ := leave_pre hI hn h1
  obtain ⟨k, rfl, hk⟩ : ∃ k : Nat, n = k ∧ k < 600 := ⟨n.toNat, by omega, by omega⟩
  have HL := Lib.hid (level_ok (findN_data hk) hF.span)
  have HF := Lib.hid hF
  have q1 : (d (k : Int) == 0) = false := beq_eq_false_iff_ne.2 h1
  have hnn : (k : Int) ∈ nodesN := mem_nodes.2 (.inl ⟨by omega, by omega⟩)
  obtain ⟨_, _, _, _, R, hR1, hR2, hR3⟩ := leave_inv 4 _ m (k : Int) hnn (by omega) hJ
  have hlen : (leaveM 4 m (k : Int)).2.length ≤ 42 := by
    rw [hR3, flat_told, List.length_map]
    have h1 := List.length_filter_le (fun k => decide (adrM m k ≠ 0)) R
    have h2 : R.length ≤ metasN.length := by
      have hp : R.Perm (metasN.filter fun x => decide (x ∈ R)) := (List.perm_ext_iff_of_nodup hR1 (metasN_nodup.sublist List.filter_sublist)).2 fun x => by
        rw [List.mem_filter, decide_eq_true_eq]
        exact ⟨fun hx => ⟨hI.metas ((hR2 x).1 hx).1, hx⟩, fun hx => hx.2⟩
      rw [hp.length_eq]; exact List.length_filter_le _ _
    have h3 : metasN.length = 42 := by decide +kernel
    omega
  have H2 := Lib.hid h1; have HJ := Lib.hid hJ; have HI := Lib.hid hI.few
  clear hF h1 hI hJ hR1 hR2 hR3
  go_enter Tryd.func11, Tryd.ntmps11
  go_wp2_with fail
  refine HL.out.mono ?_
  rintro e w1 ⟨rfl, kd, hw1⟩
  have hb1 : Below w.heap.size w w1 := by rw [hw1]; exact below_drewN (Below.refl _ _) _
  have hF1 := HF.out.below hb1
  obtain ⟨db, mb, P, hin, _⟩ := hF1.ex
  have c0 := cell_blk_some hin.top (i := 0) rfl
  have lkd := hin.lookD k
  have HF1 := Lib.hid hF1; have HB1 := Lib.hid hb1
  clear hw1 hb1 hF1 hin HL
  go_wp2_with fail
  refine (told_any _ _).mono ?_
  rintro e w2 ⟨v, rfl, ho, hb2⟩
  have htl : (toldL (d (k : Int))).length ≤ 1 := by unfold toldL; split <;> simp
  have hs12 := hb2.size
  have hF2 := HF1.out.below hb2
  obtain ⟨db, mb, P, hin, hft⟩ := hF2.ex
  have c2 := cell_blk_some hin.top (i := 0) rfl
  obtain ⟨w3, hdel, hin3, hf3⟩ := hin.delData (k : Int)
  have hFd : F db := hft db (.inr (.inl rfl))
  have hF3 : FAt w3 fb (setD d k 0) m F := ⟨⟨db, mb, P, hin3, hft⟩, fun x hx => Nat.lt_of_lt_of_le (hF2.lt x hx) hf3.size, hF2.off, hF2.span.fr hf3 fun e => hF2.off (by rw [e]; exact hFd)⟩
  have hA3 := (Aft.below (F := F) (below_call HB1.out hb2 (Nat.le_refl _))).trans (Aft.same hf3 fun x hx => by rw [hx]; exact hFd)
  have hdb : db < w1.heap.size := HF1.out.lt db hFd
  have hs23 := hf3.size
  have ho3 : OwnI w3 w1.heap.size v (toldL (d (k : Int))) := ho.fr hf3 fun g hg e => by have := (ho.lt g hg).1; omega
  have hoffF : ∀ x, F x → ¬ v.ownBlock = some x := fun x hx e => by
    have h1 := (ho.lt x e).1
    have h2 := HF1.out.lt x hx
    omega
  have h01 : 0 < w1.heap.size := by have := HF1.out.span.lt; omega
  have HF3 := Lib.hid hF3; have HA3 := Lib.hid hA3; have HO3 := Lib.hid ho3; have HOF := Lib.hid hoffF
  clear ho hb2 hF2 hin hft hin3 hf3 hFd hF3 hA3 ho3 hoffF c0 lkd
  go_wp2_with fail
  refine (leave_any HF3.out hnn HJ.out HI.out).mono ?_
  rintro e w4 ⟨v4, rfl, ho4, hF4, hf4⟩
  have hs4 := hf4.size
  have hs3 := HA3.out.fr.size
  have hs1 := HB1.out.size
  have ho4' : OwnI w4 w1.heap.size v (toldL (d (k : Int))) := HO3.out.fr hf4 fun g hg hx => HOF.out g hx hg
  have hw13 : w1.heap.size ≤ w4.heap.size := by omega
  have HF4 := Lib.hid hF4; have HO4 := Lib.hid ho4'; have HL4 := Lib.hid ho4; have HFR := Lib.hid hf4
  clear ho4 hF4 hf4 ho4' HF3 HO3
  go_wp2_with (refine wpList_append_rows (m := (leaveM 4 m (k : Int)).2) rfl (.tmp 77) (.tmp 80) rfl (by rfl) HO4.out (by rfl) HL4.out.row (by omega) (by omega) ?_)
  intro v5 w5 ho5 hf5 hv5
  have hF5 := HF4.out.fr hf5 (fun x hx => HOF.out x hx) (fun e => by have := (HO4.out.lt _ e).1; omega)
  have hso := Lib.hid (sort_own ho5 (by rw [List.length_append]; omega))
  have hz5 : ∀ g, v5.ownBlock = some g → v.ownBlock = some g ∨ w4.heap.size = g := fun g hg => by
    rcases hv5 with h | h
    · exact .inl (by rw [← h]; exact hg)
    · rw [h] at hg; injection hg with hg; exact .inr hg
  have hoff5 : ∀ x, F x → ¬ v5.ownBlock = some x := fun x hx e => by
    rcases hz5 x e with h | h
    · exact HOF.out x hx h
    · have := HF4.out.lt x hx; omega
  have hA5 : Aft w w5 F F := ⟨(HA3.out.fr.trans HFR.out).trans' hf5 fun x hx e => by have := (HO4.out.lt x e).1; omega, fun _ h => .inl h⟩
  have HF5 := Lib.hid hF5; have HO5 := Lib.hid ho5; have HA5 := Lib.hid hA5; have HOF5 := Lib.hid hoff5
  clear hF5 ho5 hf5 hv5 hz5 hoff5 hA5
  go_wp2_with fail
  refine hso.out.mono ?_
  rintro e w6 ⟨rfl, ho6, hf6⟩
  have HO6 := Lib.hid ho6; have HF6 := Lib.hid hf6
  clear ho6 hf6 hso
  go_wp2_with fail
  go_ret2
  refine ⟨_, F, rfl, HO6.out.mono hs1, HF5.out.fr HF6.out HOF5.out (fun e => ?_), HA5.out.fr.trans' HF6.out (fun x hx e => ?_), fun _ h => .inl h⟩
  · have := (HO5.out.lt _ e).1
    omega
  · have := (HO5.out.lt x e).1
    omega
end
end Go.Proofs.YtklamgijikcnaaaDoor
