/- Walks: container/heap.Remove over the queue; the cache's Drop. -/
import Derived.Test.YtjldocpjoiibjaaC30
namespace Go.Proofs.Ytjldocpjoiibjaa
open Go.RowKit

set_option maxHeartbeats 2000000 in
set_option maxRecDepth 100000 in
theorem hRemove_any {w : World} {cb : Nat} {Cc : Array Value} {Q : List Bf} {v : Value} {i : Nat} {b : Bf} (h : HQ w cb Cc Q v) (hi : Q[i]? = some b) (hl : Q.length ≤ 900000) :
    Calls Try.prog 66 #[hv cb, .int .i64 i] w fun e w' => e = .returned (.iface 70 b.ptr) ∧ (∃ v', HQ w' cb (Cc.setIfInBounds 2 v') (remR Q i) v' ∧ v' ≠ .slice none 0 0 ∧ v'.ownBlock = v.ownBlock) ∧
      w'.heap[b.blk]? = some (.cells (b.cells (Q.length - 1 : Nat)) 74 (0, 0)) ∧ Fr (fun x => x = cb ∨ v.ownBlock = some x ∨ x ∈ Q.map (·.blk)) w w' := by
  have hil := (List.getElem?_eq_some_iff.1 hi).1
  have hne : v ≠ .slice none 0 0 := by
    rintro rfl
    rcases h.own.2 with ⟨_, h0⟩ | ⟨g, cap, cur, he, _⟩
    · omega
    · cases he
  obtain ⟨qb, cap, rfl, hh, hm⟩ := h.toH hne
  obtain ⟨n, hn⟩ : ∃ n, Q.length = n + 1 := ⟨Q.length - 1, by omega⟩
  obtain ⟨hsp, hrl⟩ := rem_split hi
  obtain ⟨P, hP⟩ : ∃ P, P = remQ Q i := ⟨_, rfl⟩
  obtain ⟨T, hT⟩ : ∃ T, T = remR Q i := ⟨_, rfl⟩
  have hpp : P.Perm Q := by rw [hP]; exact rem_perm hil
  have hPdef : P = if i = n then Q else if i < (downQ n (swp Q i n) i n).2 then (downQ n (swp Q i n) i n).1 else upQ Q.length (downQ n (swp Q i n) i n).1 i := by
    rw [hP]; unfold remQ; rw [show Q.length - 1 = n by omega]
  rw [← hP, ← hT] at hsp
  rw [← hT] at hrl ⊢
  rw [show Q.length - 1 = n by omega] at hrl ⊢
  have hcell := cell_blk_some hh.blk hh.ptr
  have ml := m_len hcell
  have ms := m_swap hcell
  have cl := cf_len
  have cs := cf_swap
  have cp := cf_pop
  have mp := m_pop cb
  have HLE := Lib.hid (qLen_any (some ⟨qb, 0, none⟩) Q.length cap w)
  have hPOP := fun (w3 : World) (hh3 : HAt w3 cb Cc P qb cap) => qPop_any (Q := T) (x := b) (by rw [← hsp]; exact hh3) (by rw [hrl]; omega)
  have HPOP := Lib.hid hPOP; have HM := Lib.hid hm; have HH := Lib.hid hh; have HN := Lib.hid hn; have HPP := Lib.hid hpp; have HRL := Lib.hid hrl; have HSP := Lib.hid hsp; have HI := Lib.hid hi; have HPD := Lib.hid hPdef
  have e1 : IntKind.i64.wrap ((Q.length : Int) - 1) = (n : Int) := by rw [hn]; refine (IntWalk.i64_in _ ?_).trans ?_ <;> omega
  have hs : ∀ x, Qs Q qb x → (x = cb ∨ (Value.slice (some ⟨qb, 0, none⟩) Q.length cap).ownBlock = some x ∨ x ∈ Q.map (·.blk)) := fun x hx => by
    rcases hx with rfl | hx
    · exact .inr (.inl rfl)
    · exact .inr (.inr hx)
  have HS := Lib.hid hs
  clear h hne hh hcell hm hn hP hT hpp hPdef hPOP hrl hsp hi hs
  unfold hv
  go_enter Try.func66, Try.ntmps66
  go_wp2_with fail
  refine HLE.out.mono ?_
  rintro e w1 ⟨rfl, hw⟩
  obtain rfl := hw.symm
  clear HLE
  by_cases hin : i = n
  focus
    have hPQ : P = Q := by rw [HPD.out, if_pos hin]
    have HH3 := Lib.hid (show HAt w cb Cc P qb cap by rw [hPQ]; exact HH.out)
    have HF3 := Lib.hid (Fr.refl (Qs Q qb) w)
    have q1 : ((n : Int) != (i : Int)) = false := by rw [hin]; simp
    clear hPQ hin HPD
    go_wp2_with fail
  rotate_left
  focus
    have q1 : ((n : Int) != (i : Int)) = true := by simp; omega
    obtain ⟨x, hx⟩ : ∃ x, Q[n]? = some x := ⟨_, List.getElem?_eq_getElem (by have := HN.out; omega)⟩
    have HSW := Lib.hid (qSwap_any HH.out.q HI.out hx hin)
    clear hx
    go_wp2_with fail
    refine HSW.out.mono ?_
    rintro e w2 ⟨rfl, hq2, hf2⟩
    have hp1 := swp_perm (Q := Q) (i := i) (j := n) hil (by rw [HN.out]; omega)
    have hh2 := HH.out.step hq2 hf2 hp1
    have hd := down_any hh2 (i := i) (n := n) (by omega) (by rw [hp1.length_eq, HN.out]; omega) (by rw [hp1.length_eq]; omega)
    unfold hv at hd
    have hpd := HPD.out
    rw [if_neg hin] at hpd
    have HPD2 := Lib.hid hpd
    obtain ⟨D, hD⟩ : ∃ D, D = downQ n (swp Q i n) i n := ⟨_, rfl⟩
    rw [← hD] at hd hpd
    have HD := Lib.hid hd; have HP1 := Lib.hid hp1; have HF2 := Lib.hid hf2; have HPD3 := Lib.hid hpd
    clear hq2 hf2 hp1 hh2 hd ml ms hpd HPD HPD2 hD q1 HSW
    go_wp2_with fail
    refine HD.out.mono ?_
    rintro e w3 ⟨rfl, hh3, hp3, hf3⟩
    have HF := Lib.hid (HF2.out.trans' hf3 fun x _ hx => (Qs_perm HP1.out).1 hx)
    by_cases hlt : i < D.2
    focus
      have q : decide (i < D.2) = true := dec_true hlt
      have hpe : P = D.1 := by rw [HPD3.out, if_pos hlt]
      rw [q]
      have HH3 := Lib.hid (show HAt w3 cb Cc P qb cap by rw [hpe]; exact hh3)
      have HF3 := Lib.hid HF.out
      clear hh3 hp3 hf3 hpe hlt q HF HF2 HP1 HPD3 HD hin
      go_wp2_with fail
    rotate_left
    focus
      have q : decide (i < D.2) = false := dec_false hlt
      have hpe : P = upQ Q.length D.1 i := by rw [HPD3.out, if_neg hlt]
      have hpl : D.1.length = Q.length := (hp3.trans HP1.out).length_eq
      rw [q]
      have hu := up_any hh3 (j := i) (by rw [hpl]; exact hil) (by rw [hpl]; omega)
      rw [hpl, ← hpe] at hu
      unfold hv at hu
      have HU := Lib.hid hu
      have HPP3 := Lib.hid (hp3.trans HP1.out)
      clear hh3 hp3 hf3 hpe hpl hlt q hu HF2 HP1 HPD3 HD hin
      go_wp2_with fail
      refine HU.out.mono ?_
      rintro e w4 ⟨rfl, hh4, hf4⟩
      have HH3 := Lib.hid hh4
      have HF3 := Lib.hid (HF.out.trans' hf4 fun x _ hx => (Qs_perm HPP3.out).1 hx)
      clear hh4 hf4 HU HF HPP3
      go_wp2_with fail
  all_goals
    refine (HPOP.out _ HH3.out).mono ?_
    rintro e w5 ⟨rfl, hh5, hb5, hf5⟩
    have HH5 := Lib.hid (hh5.toQ HM.out); have HB5 := Lib.hid hb5; have HF5 := Lib.hid hf5
    clear hh5 hb5 hf5 HPOP
    go_wp2_with fail
    go_ret
    refine ⟨rfl, ⟨_, HH5.out, by simp, rfl⟩, ?_, ?_⟩
    · have := HB5.out
      rw [HRL.out] at this
      exact this
    · exact (HF3.out.mono fun x _ hx => HS.out x hx).trans' HF5.out fun x _ hx => .inl hx
end Go.Proofs.Ytjldocpjoiibjaa
