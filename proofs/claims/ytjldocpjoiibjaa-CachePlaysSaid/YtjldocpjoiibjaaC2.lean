/- Walk of the queue's Swap. -/
import Derived.Test.YtjldocpjoiibjaaC1
import Derived.BigRegion
import Derived.BigQuiet
namespace Go.Proofs.Ytjldocpjoiibjaa
open Go.RowKit

def dflt : Bf := ⟨0, 0, 0, [], false, 0, 0⟩
/-- Two places exchanged. -/
def swp (Q : List Bf) (i j : Nat) : List Bf := (Q.set i (Q.getD j dflt)).set j (Q.getD i dflt)

theorem swp_length (Q : List Bf) (i j : Nat) : (swp Q i j).length = Q.length := by simp [swp]
theorem getD_of {Q : List Bf} {i : Nat} {a : Bf} (h : Q[i]? = some a) : Q.getD i dflt = a := by rw [List.getD_eq_getElem?_getD, h]; rfl
theorem swp_at {Q : List Bf} {i j : Nat} {a b : Bf} (hi : Q[i]? = some a) (hj : Q[j]? = some b) (k : Nat) : (swp Q i j)[k]? = if k = j then some a else if k = i then some b else Q[k]? := by
  have l1 : i < Q.length := (List.getElem?_eq_some_iff.1 hi).1
  have l2 : j < Q.length := (List.getElem?_eq_some_iff.1 hj).1
  unfold swp
  rw [getD_of hi, getD_of hj, List.getElem?_set, List.getElem?_set]
  by_cases h1 : k = j
  · subst h1; simp [l2]
  · rw [if_neg (by omega), if_neg h1]
    by_cases h2 : k = i
    · subst h2; simp [l1]
    · rw [if_neg (by omega), if_neg h2]
theorem swp_perm {Q : List Bf} {i j : Nat} (l1 : i < Q.length) (l2 : j < Q.length) : (swp Q i j).Perm Q := by
  unfold swp
  rw [List.getD_eq_getElem?_getD, List.getD_eq_getElem?_getD, List.getElem?_eq_getElem l1, List.getElem?_eq_getElem l2]
  exact List.set_set_perm l1 l2

set_option maxHeartbeats 2000000 in
theorem qSwap_any {w : World} {Q : List Bf} {qb cap : Nat} (h : QAt w Q qb cap) {i j : Nat} {a b : Bf} (hi : Q[i]? = some a) (hj : Q[j]? = some b) (hij : i ≠ j) :
    Calls Try.prog 102 #[.slice (some ⟨qb, 0, none⟩) Q.length cap, .int .i64 i, .int .i64 j] w fun e w' => e = .returned (.tuple #[]) ∧ QAt w' (swp Q i j) qb cap ∧ Fr (Qs Q qb) w w' := by
  have c1 := h.cell hi
  have c2 := h.cell hj
  obtain ⟨R, hR, hRs, hRq⟩ := h.row
  have f1 := free_blk (i := i) hR
  have f2 := free_blk (i := j) hR
  have l1 : i < Q.length := (List.getElem?_eq_some_iff.1 hi).1
  have l2 : j < Q.length := (List.getElem?_eq_some_iff.1 hj).1
  have m1 : (i : Int) < (Q.length : Int) := by omega
  have m2 : (j : Int) < (Q.length : Int) := by omega
  have m3 : (0 : Int) ≤ (i : Int) := by omega
  have m4 : (0 : Int) ≤ (j : Int) := by omega
  have hab := h.inj hi hj hij
  have hqa := h.apart hi
  have hqb := h.apart hj
  obtain ⟨ha1, ha2⟩ := h.buf i a hi
  obtain ⟨hb1, hb2⟩ := h.buf j b hj
  have H := Lib.hid h; have HI := Lib.hid hi; have HJ := Lib.hid hj; have HR := Lib.hid hR; have HA := Lib.hid ha2; have HB := Lib.hid hb2; have HRQ := Lib.hid hRq
  clear h hi hj hR ha2 hb2 hRq
  go_enter Try.func102, Try.ntmps102
  go_wp2_with fail
  go_region
  obtain ⟨w1, hw1⟩ : ∃ w1, w1 = ((w.setCell ⟨qb, i, none⟩ (.pointer (some ⟨b.blk, 0, none⟩))).setCell ⟨qb, j, none⟩ (.pointer (some ⟨a.blk, 0, none⟩))).drew := ⟨_, rfl⟩
  obtain ⟨R1, hR1⟩ : ∃ R1, R1 = (R.setIfInBounds i (Value.pointer (some ⟨b.blk, 0, none⟩))).setIfInBounds j (Value.pointer (some ⟨a.blk, 0, none⟩)) := ⟨_, rfl⟩
  have r1 : w1.heap[qb]? = some (.cells R1 70 (0, 0)) := by rw [hw1, hR1]; exact blk_set (blk_set HR.out _) _
  have a1 : w1.heap[a.blk]? = some (.cells (a.cells i) 74 (0, 0)) := by rw [hw1]; exact blk_set_other (blk_set_other HA.out hqa _) hqa _
  have b1 : w1.heap[b.blk]? = some (.cells (b.cells j) 74 (0, 0)) := by rw [hw1]; exact blk_set_other (blk_set_other HB.out hqb _) hqb _
  have hfr : Fr (Qs Q qb) w w1 := by rw [hw1]; exact (((Fr.refl _ w).setCell _ (.inl rfl) _).setCell _ (.inl rfl) _).drew
  have hR1s : R1.size = cap := by rw [hR1]; simpa using hRs
  have hfit := H.out.fits
  have hR1i : R1[i]? = some (Value.pointer (some ⟨b.blk, 0, none⟩)) := by
    rw [hR1, Array.getElem?_setIfInBounds, if_neg (by omega), Array.getElem?_setIfInBounds, if_pos rfl, if_pos (by omega)]
  have hR1j : R1[j]? = some (Value.pointer (some ⟨a.blk, 0, none⟩)) := by
    rw [hR1, Array.getElem?_setIfInBounds, if_pos rfl, if_pos (by simp; omega)]
  have hR1o : ∀ k, k ≠ i → k ≠ j → R1[k]? = R[k]? := fun k h1 h2 => by
    rw [hR1, Array.getElem?_setIfInBounds, if_neg (by omega), Array.getElem?_setIfInBounds, if_neg (by omega)]
  have hoth : ∀ (k : Nat) (x : Bf), Q[k]? = some x → w1.heap[x.blk]? = some (.cells (x.cells k) 74 (0, 0)) := fun k x hx => by
    have hne := H.out.apart hx
    rw [hw1]; exact blk_set_other (blk_set_other (H.out.buf k x hx).2 hne _) hne _
  have d1 := cell_blk_some r1 hR1i
  have d2 := cell_blk_some r1 hR1j
  have g1 := free_blk (i := 69) a1
  have g2 := free_blk (i := 69) b1
  have p1 := cell_blk_some a1 (Bf.at_placed ha1 _)
  have p2 := cell_blk_some b1 (Bf.at_placed hb1 _)
  have RR := Lib.hid r1; have AA := Lib.hid a1; have BB := Lib.hid b1; have FR := Lib.hid hfr; have RI := Lib.hid hR1i; have RJ := Lib.hid hR1j; have RO := Lib.hid hR1o; have OT := Lib.hid hoth
  rw [← hw1]
  clear hw1 r1 a1 b1 hfr hR1 hR1i hR1j hR1o hoth c1 c2 f1 f2 HR HA HB
  go_wp2_with fail
  go_region
  go_wp2_with fail
  go_end0
  refine ⟨rfl, ⟨⟨R1, ?_, hR1s, ?_⟩, by rw [swp_length]; exact hfit, ?_, ?_⟩, ?_⟩
  · exact blk_set_other (blk_set_other RR.out (by simp; omega) _) (by simp; omega) _
  · intro k x hx
    rw [swp_at HI.out HJ.out] at hx
    by_cases h1 : k = j
    · subst h1; rw [if_pos rfl] at hx; rw [← Option.some.inj hx]; exact RJ.out
    · rw [if_neg h1] at hx
      by_cases h2 : k = i
      · subst h2; rw [if_pos rfl] at hx; rw [← Option.some.inj hx]; exact RI.out
      · rw [if_neg h2] at hx; rw [RO.out k h2 h1]; exact HRQ.out k x hx
  · intro k x hx
    rw [swp_at HI.out HJ.out] at hx
    by_cases h1 : k = j
    · subst h1; rw [if_pos rfl] at hx
      obtain rfl := Option.some.inj hx
      refine ⟨ha1, ?_⟩
      have := blk_set (i := 69) (blk_set_other (w := w1) (a := ⟨b.blk, 69, none⟩) AA.out hab (.int .i64 i)) (.int .i64 k)
      rw [Bf.place ha1] at this
      exact this
    · rw [if_neg h1] at hx
      by_cases h2 : k = i
      · subst h2; rw [if_pos rfl] at hx
        obtain rfl := Option.some.inj hx
        refine ⟨hb1, ?_⟩
        have := blk_set_other (a := ⟨a.blk, 69, none⟩) (blk_set (i := 69) BB.out (.int .i64 k)) (Ne.symm hab) (.int .i64 j)
        rw [Bf.place hb1] at this
        exact this
      · rw [if_neg h2] at hx
        refine ⟨(H.out.buf k x hx).1, ?_⟩
        exact blk_set_other (blk_set_other (OT.out k x hx) (H.out.inj hx HJ.out h1) _) (H.out.inj hx HI.out h2) _
  · have hp := ((swp_perm l1 l2).map (·.blk)).cons qb
    exact hp.nodup_iff.2 H.out.nodup
  · refine FR.out.trans ((((Fr.refl _ w1).setCell ⟨b.blk, 69, none⟩ (.inr ?_) _).setCell ⟨a.blk, 69, none⟩ (.inr ?_) _).drew)
    · exact List.mem_map.2 ⟨b, List.mem_of_getElem? HJ.out, rfl⟩
    · exact List.mem_map.2 ⟨a, List.mem_of_getElem? HI.out, rfl⟩
end Go.Proofs.Ytjldocpjoiibjaa
