/- Walk of container/heap.up over the queue. -/
import Derived.Test.YtjldocpjoiibjaaC2m
namespace Go.Proofs.Ytjldocpjoiibjaa
open Go.RowKit

set_option maxHeartbeats 2000000 in
theorem qSwap_same {w : World} {Q : List Bf} {qb cap : Nat} (h : QAt w Q qb cap) {i : Nat} {a : Bf} (hi : Q[i]? = some a) :
    Calls Try.prog 102 #[.slice (some ⟨qb, 0, none⟩) Q.length cap, .int .i64 i, .int .i64 i] w fun e w' => e = .returned (.tuple #[]) ∧ QAt w' Q qb cap ∧ Fr (Qs Q qb) w w' := by
  have c1 := h.cell hi
  obtain ⟨R, hR, hRs, hRq⟩ := h.row
  have f1 := free_blk (i := i) hR
  have l1 : i < Q.length := (List.getElem?_eq_some_iff.1 hi).1
  have m1 : (i : Int) < (Q.length : Int) := by omega
  have m3 : (0 : Int) ≤ (i : Int) := by omega
  have hqa := h.apart hi
  obtain ⟨ha1, ha2⟩ := h.buf i a hi
  have H := Lib.hid h; have HI := Lib.hid hi; have HR := Lib.hid hR; have HA := Lib.hid ha2; have HRQ := Lib.hid hRq
  clear h hi hR ha2 hRq
  go_enter Try.func102, Try.ntmps102
  go_wp2_with fail
  go_region
  obtain ⟨w1, hw1⟩ : ∃ w1, w1 = ((w.setCell ⟨qb, i, none⟩ (.pointer (some ⟨a.blk, 0, none⟩))).setCell ⟨qb, i, none⟩ (.pointer (some ⟨a.blk, 0, none⟩))).drew := ⟨_, rfl⟩
  have hsame : (R.setIfInBounds i (Value.pointer (some ⟨a.blk, 0, none⟩))) = R := by
    apply Array.ext_getElem?
    intro k
    rw [Array.getElem?_setIfInBounds]
    split
    · rename_i hk; subst hk
      rw [HRQ.out i a HI.out]
      split
      · rfl
      · rename_i hn; exact absurd (by have := H.out.fits; omega) hn
    · rfl
  have r1 : w1.heap[qb]? = some (.cells R 70 (0, 0)) := by
    have := blk_set (i := i) (blk_set (i := i) HR.out (.pointer (some ⟨a.blk, 0, none⟩))) (.pointer (some ⟨a.blk, 0, none⟩))
    rw [hsame, hsame] at this
    rw [hw1]; exact this
  have a1 : w1.heap[a.blk]? = some (.cells (a.cells i) 74 (0, 0)) := by rw [hw1]; exact blk_set_other (blk_set_other HA.out hqa _) hqa _
  have hfr : Fr (Qs Q qb) w w1 := by rw [hw1]; exact (((Fr.refl _ w).setCell _ (.inl rfl) _).setCell _ (.inl rfl) _).drew
  have hoth : ∀ (k : Nat) (x : Bf), Q[k]? = some x → w1.heap[x.blk]? = some (.cells (x.cells k) 74 (0, 0)) := fun k x hx => by
    have hne := H.out.apart hx
    rw [hw1]; exact blk_set_other (blk_set_other (H.out.buf k x hx).2 hne _) hne _
  have d1 := cell_blk_some r1 (HRQ.out i a HI.out)
  have g1 := free_blk (i := 69) a1
  have p1 := cell_blk_some a1 (Bf.at_placed ha1 _)
  have RR := Lib.hid r1; have AA := Lib.hid a1; have FR := Lib.hid hfr; have OT := Lib.hid hoth
  rw [← hw1]
  clear hw1 r1 a1 hfr hoth c1 f1 HR HA hsame
  go_wp2_with fail
  go_region
  go_wp2_with fail
  go_end0
  refine ⟨rfl, ⟨⟨R, ?_, hRs, HRQ.out⟩, H.out.fits, ?_, H.out.nodup⟩, ?_⟩
  · exact blk_set_other (blk_set_other RR.out (by simp; omega) _) (by simp; omega) _
  · intro k x hx
    by_cases h1 : k = i
    · subst h1
      rw [HI.out] at hx
      obtain rfl := Option.some.inj hx
      refine ⟨ha1, ?_⟩
      have := blk_set (i := 69) (blk_set (i := 69) AA.out (.int .i64 k)) (.int .i64 k)
      rw [Bf.place ha1, Bf.place ha1] at this
      exact this
    · refine ⟨(H.out.buf k x hx).1, ?_⟩
      exact blk_set_other (blk_set_other (OT.out k x hx) (H.out.inj hx HI.out h1) _) (H.out.inj hx HI.out h1) _
  · refine FR.out.trans ((((Fr.refl _ w1).setCell ⟨a.blk, 69, none⟩ (.inr ?_) _).setCell ⟨a.blk, 69, none⟩ (.inr ?_) _).drew)
    all_goals exact List.mem_map.2 ⟨a, List.mem_of_getElem? HI.out, rfl⟩

/-- The queue behind its field in the cache's struct: cells Cc, the slice in the third one. -/
structure HAt (w : World) (cb : Nat) (Cc : Array Value) (Q : List Bf) (qb cap : Nat) : Prop where
  q : QAt w Q qb cap
  blk : w.heap[cb]? = some (.cells Cc 69 (0, 0))
  ptr : Cc[2]? = some (.slice (some ⟨qb, 0, none⟩) Q.length cap)
  off : ¬ Qs Q qb cb
theorem Qs_perm {Q Q' : List Bf} {qb x : Nat} (h : Q.Perm Q') : Qs Q qb x ↔ Qs Q' qb x := by
  unfold Qs; rw [(h.map (·.blk)).mem_iff]
theorem HAt.step {w w' : World} {cb : Nat} {Cc : Array Value} {Q Q' : List Bf} {qb cap : Nat} (h : HAt w cb Cc Q qb cap) (hq : QAt w' Q' qb cap) (hf : Fr (Qs Q qb) w w') (hp : Q'.Perm Q) : HAt w' cb Cc Q' qb cap :=
  ⟨hq, by rw [hf.block cb (blk_lt h.blk) h.off]; exact h.blk, by rw [hp.length_eq]; exact h.ptr, fun hs => h.off ((Qs_perm hp).1 hs)⟩
/-- The heap.Interface value of the queue. -/
def hv (cb : Nat) : Value := .iface 76 (.pointer (some ⟨cb, 2, none⟩))

def lessQ (Q : List Bf) (i j : Nat) : Bool := decide ((Q.getD i dflt).stamp < (Q.getD j dflt).stamp)
def upQ : Nat → List Bf → Nat → List Bf
  | 0, Q, _ => Q
  | f + 1, Q, j => if j = 0 then Q else if lessQ Q j ((j - 1) / 2) = true then upQ f (swp Q ((j - 1) / 2) j) ((j - 1) / 2) else Q

set_option maxHeartbeats 4000000 in
set_option maxRecDepth 100000 in
theorem up_any {w : World} {cb : Nat} {Cc : Array Value} {Q : List Bf} {qb cap : Nat} (h : HAt w cb Cc Q qb cap) {j : Nat} (hj : j < Q.length) (hl : Q.length ≤ 1000000) :
    Calls Try.prog 48 #[hv cb, .int .i64 j] w fun e w' => e = .returned (.tuple #[]) ∧ HAt w' cb Cc (upQ Q.length Q j) qb cap ∧ Fr (Qs Q qb) w w' := by
  unfold hv
  obtain ⟨QQ, hQQ⟩ : ∃ QQ, QQ = upQ Q.length Q j := ⟨_, rfl⟩
  rw [← hQQ]
  have HQQ := Lib.hid hQQ; clear hQQ
  have H := Lib.hid h; clear h
  go_enter Try.func48, Try.ntmps48
  go_wp2_with fail
  go_loopg [1] Q.length (fun f t wr => ∃ (k : Nat) (Q' : List Bf), k < Q.length ∧ t = .int .i64 k ∧ k ≤ f ∧ Q'.Perm Q ∧ HAt wr cb Cc Q' qb cap ∧ upQ f Q' k = QQ ∧ Fr (Qs Q qb) w wr)
  case atStart => exact ⟨j, Q, hj, rfl, Nat.le_of_lt hj, .refl _, H.out, HQQ.out.symm, Fr.refl _ _⟩
  case round =>
    obtain ⟨k, Q', hk, rfl, hkf, hp, hh, hu, hfr⟩ := hrel
    have hlen := hp.length_eq
    by_cases hk0 : k = 0
    · subst hk0
      have hq0 : QQ = Q' := by rw [← hu]; cases gk <;> rfl
      subst hq0
      go_wp2_with fail
      go_end0
      exact ⟨rfl, hh, hfr⟩
    · obtain ⟨f, rfl⟩ : ∃ f, gk = f + 1 := ⟨gk - 1, by omega⟩
      obtain ⟨p, hpp⟩ : ∃ p, p = (k - 1) / 2 := ⟨_, rfl⟩
      rw [upQ, if_neg hk0, ← hpp] at hu
      obtain ⟨a, ha⟩ : ∃ a, Q'[k]? = some a := ⟨_, List.getElem?_eq_getElem (by omega)⟩
      obtain ⟨b, hb⟩ : ∃ b, Q'[p]? = some b := ⟨_, List.getElem?_eq_getElem (by omega)⟩
      have hcell := cell_blk_some hh.blk hh.ptr
      have w1' : IntKind.i64.wrap ((k : Int) - 1) = (k : Int) - 1 := IntWalk.i64_in _ (by omega)
      have w2' : ((k : Int) - 1).tdiv 2 = (p : Int) := by rw [Int.tdiv_eq_ediv_of_nonneg (by omega)]; omega
      have q1 : ((p : Int) == (k : Int)) = false := by rw [beq_eq_false_iff_ne]; omega
      have hpk : p ≠ k := by omega
      have hpl : p < Q.length := by omega
      have hpf : p ≤ f := by omega
      have ml := m_less hcell
      have cl := cf_less
      have cs := cf_swap
      have HLS := Lib.hid (qLess_any hh.q ha hb)
      have hlq : lessQ Q' k p = decide (a.stamp < b.stamp) := by unfold lessQ; rw [getD_of ha, getD_of hb]
      rw [hlq] at hu
      have HPP := Lib.hid hpp
      clear hpp
      have HU := Lib.hid hu; have HH := Lib.hid hh; have HP := Lib.hid hp; have HFR := Lib.hid hfr; have HAA := Lib.hid ha; have HBB := Lib.hid hb
      have HLEN := Lib.hid hlen
      clear hu hh hp hfr ha hb hlq hlen
      go_wp2_with fail
      refine HLS.out.mono ?_
      rintro e w1 ⟨rfl, n, hw⟩
      have hc1 : w1.cell? ⟨cb, 2, none⟩ = some (.slice (some ⟨qb, 0, none⟩) Q'.length cap) := by rw [hw]; exact hcell
      have hq1 : QAt w1 Q' qb cap := by rw [hw]; exact ⟨HH.out.q.row, HH.out.q.fits, HH.out.q.buf, HH.out.q.nodup⟩
      have hf1 : Fr (Qs Q' qb) wr w1 := by rw [hw]; exact (Fr.refl _ wr).drewN n
      have hh1 := HH.out.step hq1 hf1 (.refl _)
      clear hw hcell ml
      have hfr1 := HFR.out.trans (hf1.mono fun x _ hx => (Qs_perm HP.out).1 hx)
      clear hf1
      cases hls : decide (a.stamp < b.stamp)
      · have hu := HU.out
        rw [hls, if_neg (by simp)] at hu
        subst hu
        go_wp2_with fail
        go_end0
        exact ⟨rfl, hh1, hfr1⟩
      · have hu := HU.out
        rw [hls, if_pos rfl] at hu
        have HU2 := Lib.hid hu
        have ms := m_swap hc1
        have HSW := Lib.hid (qSwap_any hq1 HBB.out HAA.out hpk)
        have HH1 := Lib.hid hh1; have HFR1 := Lib.hid hfr1
        clear hu hls hh1 hfr1 hq1
        go_wp2_with fail
        refine HSW.out.mono ?_
        rintro e w2 ⟨rfl, hq2, hf2⟩
        have hperm := swp_perm (Q := Q') (i := p) (j := k) (by rw [HLEN.out]; exact hpl) (by rw [HLEN.out]; exact hk)
        have hh2 := HH1.out.step hq2 hf2 hperm
        have hfr2 := HFR1.out.trans (hf2.mono fun x _ hx => (Qs_perm HP.out).1 hx)
        have hp2 := hperm.trans HP.out
        clear hq2 hf2 hperm hc1 ms
        go_wp2_with fail
        go_roundg f
        case rel => exact ⟨p, _, hpl, by go_num, hpf, hp2, hh2, HU2.out, hfr2⟩
        all_goals omega
end Go.Proofs.Ytjldocpjoiibjaa
