/- Walks of container/heap.Fix and Pop over the queue. -/
import Derived.Test.YtjldocpjoiibjaaC6
namespace Go.Proofs.Ytjldocpjoiibjaa
open Go.RowKit

def fixQ (Q : List Bf) (i : Nat) : List Bf := if i < (downQ Q.length Q i Q.length).2 then (downQ Q.length Q i Q.length).1 else upQ Q.length (downQ Q.length Q i Q.length).1 i

set_option maxHeartbeats 2000000 in
set_option maxRecDepth 100000 in
theorem hFix_any {w : World} {cb : Nat} {Cc : Array Value} {Q : List Bf} {v : Value} (h : HQ w cb Cc Q v) {i : Nat} (hi : i < Q.length) (hl : Q.length ≤ 900000) :
    Calls Try.prog 49 #[hv cb, .int .i64 i] w fun e w' => e = .returned (.tuple #[]) ∧ HQ w' cb Cc (fixQ Q i) v ∧ (fixQ Q i).Perm Q ∧ Fr (fun x => v.ownBlock = some x ∨ x ∈ Q.map (·.blk)) w w' := by
  have hne : v ≠ .slice none 0 0 := by
    rintro rfl
    rcases h.own.2 with ⟨_, h0⟩ | ⟨g, cap, cur, he, _⟩
    · omega
    · cases he
  obtain ⟨qb, cap, rfl, hh, hm⟩ := h.toH hne
  obtain ⟨D, hD⟩ : ∃ D, D = downQ Q.length Q i Q.length := ⟨_, rfl⟩
  have hfx : fixQ Q i = if i < D.2 then D.1 else upQ Q.length D.1 i := by rw [hD]; rfl
  obtain ⟨F, hF⟩ : ∃ F, F = fixQ Q i := ⟨_, rfl⟩
  rw [← hF]
  rw [← hF] at hfx
  have HFX := Lib.hid hfx
  have hcell := cell_blk_some hh.blk hh.ptr
  have ml := m_len hcell
  have cl := cf_len
  have HLE := Lib.hid (qLen_any (some ⟨qb, 0, none⟩) Q.length cap w)
  have hd := down_any hh (i := i) (n := Q.length) (by omega) (Nat.le_refl _) (by omega)
  rw [← hD] at hd
  have HD := Lib.hid hd; have HM := Lib.hid hm
  have hsub : ∀ x, Qs Q qb x → ((Value.slice (some ⟨qb, 0, none⟩) Q.length cap).ownBlock = some x ∨ x ∈ Q.map (·.blk)) := fun x hx => by
    rcases hx with rfl | hx
    · exact .inl rfl
    · exact .inr hx
  have HSUB := Lib.hid hsub
  clear h hne hh hcell hd hm hD hfx hsub hF
  unfold hv at HD ⊢
  go_enter Try.func49, Try.ntmps49
  go_wp2_with fail
  refine HLE.out.mono ?_
  rintro e w1 ⟨rfl, hw⟩
  obtain rfl := hw.symm
  go_wp2_with fail
  refine HD.out.mono ?_
  rintro e w2 ⟨rfl, hh2, hp2, hf2⟩
  by_cases hlt : i < D.2
  · have q : decide (i < D.2) = true := dec_true hlt
    rw [q]
    have hF := HFX.out
    rw [if_pos hlt] at hF
    have HF := Lib.hid hF
    clear hF
    have hq2 := hh2.toQ HM.out
    rw [hp2.length_eq] at hq2
    have HQ2 := Lib.hid hq2; have HP2 := Lib.hid hp2; have HF2 := Lib.hid hf2
    clear hh2 hp2 hf2 hq2 hlt q
    go_wp2_with fail
    go_end0
    rw [HF.out]
    exact ⟨rfl, HQ2.out, HP2.out, HF2.out.mono fun x _ hx => HSUB.out x hx⟩
  · have q : decide (i < D.2) = false := dec_false hlt
    rw [q]
    have hF := HFX.out
    rw [if_neg hlt] at hF
    have HF := Lib.hid hF
    clear hF
    have hu := up_any hh2 (j := i) (by rw [hp2.length_eq]; exact hi) (by rw [hp2.length_eq]; omega)
    rw [hp2.length_eq] at hu
    unfold hv at hu
    have HU := Lib.hid hu; have HP2 := Lib.hid hp2; have HF2 := Lib.hid hf2
    clear hh2 hp2 hf2 hu hlt q
    go_wp2_with fail
    refine HU.out.mono ?_
    rintro e w3 ⟨rfl, hh3, hf3⟩
    have hp3 := (upQ_perm Q.length D.1 i (by rw [HP2.out.length_eq]; exact hi)).trans HP2.out
    have hq3 := hh3.toQ HM.out
    rw [hp3.length_eq] at hq3
    have HQ3 := Lib.hid hq3; have HP3 := Lib.hid hp3; have HF3 := Lib.hid hf3
    clear hh3 hp3 hf3 hq3
    go_wp2_with fail
    go_end0
    rw [HF.out]
    exact ⟨rfl, HQ3.out, HP3.out, (HF2.out.mono fun x _ hx => HSUB.out x hx).trans' HF3.out fun x _ hx => HSUB.out x ((Qs_perm HP2.out).1 hx)⟩

theorem swp_self {Q : List Bf} {i : Nat} (h : i < Q.length) : swp Q i i = Q := by
  unfold swp
  rw [List.getD_eq_getElem?_getD, List.getElem?_eq_getElem h]
  simp
/-- What heap.Pop leaves, and what it hands out. -/
def popQ (Q : List Bf) : List Bf := (downQ (Q.length - 1) (swp Q 0 (Q.length - 1)) 0 (Q.length - 1)).1
def popR (Q : List Bf) : List Bf := (popQ Q).take (Q.length - 1)
def popX (Q : List Bf) : Bf := (popQ Q).getD (Q.length - 1) dflt

set_option maxHeartbeats 2000000 in
set_option maxRecDepth 100000 in
theorem hPop_any {w : World} {cb : Nat} {Cc : Array Value} {Q : List Bf} {v : Value} (h : HQ w cb Cc Q v) (h0 : 0 < Q.length) (hl : Q.length ≤ 900000) :
    Calls Try.prog 47 #[hv cb] w fun e w' => e = .returned (.iface 70 (popX Q).ptr) ∧ (popR Q ++ [popX Q]).Perm Q ∧ (∃ v', HQ w' cb (Cc.setIfInBounds 2 v') (popR Q) v' ∧ v' ≠ .slice none 0 0 ∧ v'.ownBlock = v.ownBlock) ∧
      w'.heap[(popX Q).blk]? = some (.cells ((popX Q).cells (Q.length - 1 : Nat)) 74 (0, 0)) ∧ Fr (fun x => x = cb ∨ v.ownBlock = some x ∨ x ∈ Q.map (·.blk)) w w' := by
  have hne : v ≠ .slice none 0 0 := by
    rintro rfl
    rcases h.own.2 with ⟨_, h0⟩ | ⟨g, cap, cur, he, _⟩
    · omega
    · cases he
  obtain ⟨qb, cap, rfl, hh, hm⟩ := h.toH hne
  obtain ⟨n, hn⟩ : ∃ n, Q.length = n + 1 := ⟨Q.length - 1, by omega⟩
  obtain ⟨P, hP⟩ : ∃ P, P = popQ Q := ⟨_, rfl⟩
  have hR : popR Q = P.take n := by unfold popR; rw [hn, ← hP]; rfl
  have hX : popX Q = P.getD n dflt := by unfold popX; rw [hn, ← hP]; rfl
  have hP' : P = (downQ n (swp Q 0 n) 0 n).1 := by rw [hP]; unfold popQ; rw [hn]; rfl
  rw [hR, hX, show Q.length - 1 = n by omega]
  have hcell := cell_blk_some hh.blk hh.ptr
  have ml := m_len hcell
  have ms := m_swap hcell
  have cl := cf_len
  have cs := cf_swap
  have cp := cf_pop
  have mp := m_pop cb
  have HLE := Lib.hid (qLen_any (some ⟨qb, 0, none⟩) Q.length cap w)
  obtain ⟨a, ha⟩ : ∃ a, Q[0]? = some a := ⟨_, List.getElem?_eq_getElem h0⟩
  obtain ⟨b, hb⟩ : ∃ b, Q[n]? = some b := ⟨_, List.getElem?_eq_getElem (by omega)⟩
  have hsw : Calls Try.prog 102 #[.slice (some ⟨qb, 0, none⟩) Q.length cap, .int .i64 (0 : Nat), .int .i64 n] w fun e w' => e = .returned (.tuple #[]) ∧ QAt w' (swp Q 0 n) qb cap ∧ Fr (Qs Q qb) w w' := by
    by_cases hn0 : n = 0
    · subst hn0
      rw [swp_self h0]
      exact qSwap_same hh.q ha
    · exact qSwap_any hh.q ha hb (by omega)
  have HSW := Lib.hid hsw; have HM := Lib.hid hm; have HH := Lib.hid hh; have HN := Lib.hid hn; have HP := Lib.hid hP'
  clear h hne hh hcell hm hn hsw ha hb hP hP' hR hX
  unfold hv
  go_enter Try.func47, Try.ntmps47
  go_wp2_with fail
  refine HLE.out.mono ?_
  rintro e w1 ⟨rfl, hw⟩
  obtain rfl := hw.symm
  go_wp2_with fail
  have he : (Q.length : Int) - 1 = (n : Int) := by have := HN.out; omega
  rw [he]
  have hl0 : 0 < Q.length := h0
  refine HSW.out.mono ?_
  rintro e w2 ⟨rfl, hq2, hf2⟩
  have hp1 := swp_perm (Q := Q) (i := 0) (j := n) h0 (by rw [HN.out]; omega)
  have hh2 := HH.out.step hq2 hf2 hp1
  have hd := down_any hh2 (i := 0) (n := n) (by omega) (by rw [hp1.length_eq, HN.out]; omega) (by rw [hp1.length_eq]; omega)
  rw [← HP.out] at hd
  unfold hv at hd
  have HD := Lib.hid hd; have HP1 := Lib.hid hp1; have HF2 := Lib.hid hf2
  clear hq2 hf2 hp1 hh2 hd ml ms he
  go_wp2_with fail
  refine HD.out.mono ?_
  rintro e w3 ⟨rfl, hh3, hp3, hf3⟩
  have hpl : P.length = n + 1 := by rw [hp3.length_eq, HP1.out.length_eq, HN.out]
  obtain ⟨x, hx⟩ : ∃ x, P[n]? = some x := ⟨_, List.getElem?_eq_getElem (by omega)⟩
  have hxd : P.getD n dflt = x := getD_of hx
  have hsplit : P = P.take n ++ [x] := by
    have := List.take_add_one (l := P) (i := n)
    rw [hx, ← hpl, List.take_length] at this
    exact this
  obtain ⟨T, hT⟩ : ∃ T, T = P.take n := ⟨_, rfl⟩
  have hTl : T.length = n := by rw [hT, List.length_take]; omega
  rw [← hT] at hsplit
  have hpop := qPop_any (Q := T) (x := x) (by rw [← hsplit]; exact hh3) (by rw [hTl]; have := HN.out; omega)
  have HPOP := Lib.hid hpop; have HP3 := Lib.hid hp3; have HF3 := Lib.hid hf3; have HXD := Lib.hid hxd; have HT := Lib.hid hT; have HTL := Lib.hid hTl; have HSP := Lib.hid hsplit
  clear hh3 hp3 hf3 hpl hx hxd hsplit hT hTl hpop
  go_wp2_with fail
  refine HPOP.out.mono ?_
  rintro e w4 ⟨rfl, hh4, hb4, hf4⟩
  have HH4 := Lib.hid (hh4.toQ HM.out); have HB4 := Lib.hid hb4; have HF4 := Lib.hid hf4
  clear hh4 hb4 hf4
  go_wp2_with fail
  go_ret
  rw [HXD.out, ← HT.out]
  refine ⟨rfl, ?_, ⟨_, HH4.out, by simp, rfl⟩, ?_, ?_⟩
  · rw [← HSP.out]; exact HP3.out.trans HP1.out
  · have := HB4.out
    rw [HTL.out] at this
    exact this
  · have hs : ∀ x, Qs Q qb x → (x = cb ∨ (Value.slice (some ⟨qb, 0, none⟩) Q.length cap).ownBlock = some x ∨ x ∈ Q.map (·.blk)) := fun x hx => by
      rcases hx with rfl | hx
      · exact .inr (.inl rfl)
      · exact .inr (.inr hx)
    exact ((HF2.out.mono fun x _ hx => hs x hx).trans' HF3.out fun x _ hx => hs x ((Qs_perm HP1.out).1 hx)).trans' HF4.out fun x _ hx => .inl hx
end Go.Proofs.Ytjldocpjoiibjaa
