/- Walk of file's leave. -/
/- Walks of file's Get, Has, Set. -/
import Derived.Test.YtklamgijikcnaaaDoorF12
namespace Go.Proofs.YtklamgijikcnaaaDoor
open Go.RowKit

theorem leave_next {h : Int → Bool} {m : MM} {p a u : Int} (hpm : p ∈ metasN) (hJ : JM h m (at1 p 1)) (hmp : m p = some (a, u)) (hu : ¬ 0 < u - 1) : JM (fun c => h c && !(c == p)) (updM m p none) (at1 (upN p).1 1) := by
  have h1 := hJ.cnt p a u hmp
  unfold at1 at h1
  rw [if_pos rfl] at h1
  have hpn : p ∈ nodesN := mem_nodes.2 (.inr hpm)
  have hhp : h p = true := by rw [hJ.has p hpm, hmp]; rfl
  refine ⟨fun k hk => ?_, fun k v hk => ?_, fun k a' u' hk => ?_, fun k hk hm => ?_⟩
  · by_cases e : k = p
    · rw [e, updM_self]; simp
    · rw [updM_other e, beq_eq_false_iff_ne.2 e, Bool.not_false, Bool.and_true]; exact hJ.has k hk
  · by_cases e : k = p
    · rw [e]; exact hpm
    · rw [updM_other e] at hk; exact hJ.dom k v hk
  · by_cases e : k = p
    · subst e; rw [updM_self] at hk; cases hk
    · rw [updM_other e] at hk
      have h2 := hJ.cnt k a' u' hk
      have h3 := cnt_del (k := k) hhp hpn
      unfold at1 at h2 ⊢
      rw [if_neg e] at h2
      by_cases e2 : (upN p).1 = k
      · rw [if_pos e2] at h3; rw [if_pos e2.symm]; omega
      · rw [if_neg e2] at h3; rw [if_neg (fun e => e2 e.symm)]; omega
  · have h3 := cnt_del (k := k) hhp hpn
    unfold at1
    by_cases e : k = p
    · subst e
      rw [if_neg (up_ne hpn)] at h3
      rw [if_neg (fun e => up_ne hpn e.symm)]
      omega
    · rw [updM_other e] at hm
      have h2 := hJ.no k hk hm
      unfold at1 at h2
      rw [if_neg e] at h2
      by_cases e2 : (upN p).1 = k
      · rw [if_pos e2] at h3; omega
      · rw [if_neg e2] at h3; rw [if_neg (fun e => e2 e.symm)]; omega
theorem leave_there {h : Int → Bool} {m : MM} {p : Int} (hpm : p ∈ metasN) (hJ : JM h m (at1 p 1)) : ∃ a u, m p = some (a, u) := by
  cases hmp : m p with
  | none =>
    have := hJ.no p hpm hmp
    unfold at1 at this
    rw [if_pos rfl] at this
    omega
  | some v => exact ⟨v.1, v.2, rfl⟩
def LeaveSt (w : World) (fb : Nat) (d : Int → Int) (m0 : MM) (F : Nat → Prop) (n0 : Int) (c : Int) (v : Value) (wr : World) : Prop :=
  ∃ t m L h, c ∈ nodesN ∧ 4 ≤ lvlN c + t ∧ JM h m (at1 (upN c).1 1) ∧ leaveM 4 m0 n0 = ((leaveM t m c).1, L ++ (leaveM t m c).2) ∧ Few m ∧ L.length + t ≤ 4 ∧ FAt wr fb d m F ∧ Fr F w wr ∧ OwnI wr w.heap.size v L
/-- What leave leaves. -/
def LeaveRes (w : World) (fb : Nat) (d : Int → Int) (m0 : MM) (F : Nat → Prop) (n : Int) (e : Ending) (w' : World) : Prop :=
  ∃ v, e = .returned v ∧ OwnI w' w.heap.size v (leaveM 4 m0 n).2 ∧ FAt w' fb d (leaveM 4 m0 n).1 F ∧ Fr F w w'

set_option maxHeartbeats 2000000 in
set_option maxRecDepth 100000 in
theorem leave_any {w : World} {fb : Nat} {d : Int → Int} {m0 : MM} {F : Nat → Prop} {n : Int} {h : Int → Bool} (hF : FAt w fb d m0 F) (hn : n ∈ nodesN) (hJ : JM h m0 (at1 (upN n).1 1)) (hu : Few m0) :
    Calls Tryd.prog 28 #[.pointer (some ⟨fb, 0, none⟩), .int .i64 n] w (LeaveRes w fb d m0 F n) := by
  have ST : Hid (LeaveSt w fb d m0 F n n (.slice none 0 0) w) := Lib.hid ⟨4, m0, [], h, hn, by omega, hJ, by simp, hu, by simp, hF, Fr.refl _ _, IntsAt.nil _ _ _⟩
  have hFl := Lib.hid hF.lt
  have hw0 := hF.span.lt
  clear hF hn hu hJ
  go_enter Tryd.func28, Tryd.ntmps28
  go_wp2_with fail
  go_loopw [1, 5] (fun v out wr => ∃ c : Int, v = .int .i64 c ∧ LeaveSt w fb d m0 F n c out wr) (fun v _ _ => 4 - lvlN (RowKit.intOf v))
  case atStart => exact ⟨n, rfl, ST.out⟩
  case round =>
    obtain ⟨c, rfl, t, m, L, h, hcn, ht, hJ, hne, hfew, hLt, hFA, hAf, hown⟩ := hrel
    obtain ⟨l, f, hf, hl⟩ := node_find hcn
    have HP := Lib.hid (parent_ok hf hFA.span)
    have hl3 := node_lvl hcn
    obtain ⟨t, rfl⟩ : ∃ t', t = t' + 1 := ⟨t - 1, by omega⟩
    have hup := node_up hcn
    have HU := Lib.hid hup; have HNE := Lib.hid hne; have HFA := Lib.hid hFA; have HAF := Lib.hid hAf; have HFW := Lib.hid hfew; have HJ := Lib.hid hJ; have HO := Lib.hid hown
    clear hup hne hFA hAf hfew ST hf hl hJ hown
    generalize hpq : (upN c) = pq at HP HU HJ
    obtain ⟨p, q⟩ := pq
    have HPQ := Lib.hid hpq
    clear hpq
    dsimp only at HP HU HJ
    go_wp2_with fail
    refine HP.out.mono ?_
    rintro e w1 ⟨rfl, hb⟩
    have hFA1 := HFA.out.below hb
    have HFA1 := Lib.hid hFA1; have HAF1 := Lib.hid (HAF.out.trans (Fr.below hb)); have HO1 := Lib.hid (HO.out.below hb)
    clear HFA HAF hb HP HO
    by_cases h6 : p = 600
    · have q1 : (p == 600) = true := beq_iff_eq.2 h6
      have H6 := Lib.hid h6
      clear h6 hFA1
      go_wp2_with fail
      go_ret
      have e1 : leaveM (t + 1) m c = (m, []) := by unfold leaveM; rw [HPQ.out, if_pos H6.out]
      have e2 := HNE.out
      rw [e1, List.append_nil] at e2
      refine ⟨_, rfl, ?_, ?_, HAF1.out⟩
      · rw [e2]; exact HO1.out
      · rw [e2]; exact HFA1.out
    · have q1 : (p == 600) = false := beq_eq_false_iff_ne.2 h6
      obtain ⟨hpm, hpl⟩ := HU.out.resolve_left h6
      obtain ⟨a, u, hmp⟩ := leave_there hpm HJ.out
      obtain ⟨db, mb, P, hin, hft⟩ := hFA1.ex
      have c0 := cell_blk_some hin.top (i := 0) rfl
      have c1 := cell_blk_some hin.top (i := 1) rfl
      have lk := hin.lookM p
      obtain ⟨b, hpb, hbb⟩ := hin.at hmp
      obtain ⟨u0, u1⟩ := HFW.out p a u hmp
      rw [hpb] at lk
      have d0 := cell_blk_some hbb (i := 0) rfl
      have d1 := cell_blk_some hbb (i := 1) rfl
      have f1 := free_blk (i := 1) hbb
      have hne1 : leaveM (t + 1) m c = if 0 < u - 1 then (updM m p (some (a, u - 1)), []) else ((leaveM t (updM m p none) p).1, toldL a ++ (leaveM t (updM m p none) p).2) := by
        conv => lhs; unfold leaveM
        rw [HPQ.out, if_neg h6]
        dsimp only
        rw [hmp]
      have hin2 := hin.setMeta (i := 1) (v := .int .i64 (u - 1)) (a' := a) (u' := u - 1) hmp hpb rfl
      have hFb : F b := hft b (.inr (.inr (.inr ⟨p, hpb⟩)))
      have hfr2 : Fr (fun x => x = b) w1 (w1.setCell ⟨b, 1, none⟩ (.int .i64 (u - 1))) := (Fr.refl (fun x => x = b) w1).setCell ⟨b, 1, none⟩ rfl _
      have hspan2 := hFA1.span.fr hfr2 (fun e => hFA1.off (by rw [e]; exact hFb))
      have hbn := hin.mblk hpb
      have hob : u5.ownBlock ≠ some b := own_off HO1.out hbb (by decide)
      have HIN2 := Lib.hid hin2; have HFT := Lib.hid hft; have HN1 := Lib.hid hne1; have HM := Lib.hid hmp; have HFR2 := Lib.hid hfr2; have HSP2 := Lib.hid hspan2
      have HFB := Lib.hid hFb; have HPB := Lib.hid hpb; have HBN := Lib.hid hbn
      have HO2 := Lib.hid (own_set (a := ⟨b, 1, none⟩) HO1.out hob (.int .i64 (u - 1)))
      clear hin hft hFA1 hne1 hmp hin2 hFb hfr2 hspan2 hbb hob hpb hbn
      by_cases hu : 0 < u - 1
      · have hu' : 1 < u := by omega
        go_wp2_with fail
        go_ret
        have e2 := HNE.out
        rw [HN1.out, if_pos hu, List.append_nil] at e2
        refine ⟨_, rfl, by rw [e2]; exact HO2.out, ?_, HAF1.out.trans (HFR2.out.tell fun x hx => by rw [hx]; exact HFB.out)⟩
        rw [e2]
        exact ⟨⟨db, mb, P, HIN2.out, HFT.out⟩, fun x hx => by rw [size_set]; exact HFA1.out.lt x hx, HFA1.out.off, HSP2.out⟩
      · have hu' : ¬ 1 < u := by omega
        go_wp2_with fail
        generalize hw2 : w1.setCell ⟨b, 1, none⟩ (.int .i64 (u - 1)) = w2 at HIN2 HFR2 HSP2 HO2 ⊢
        have hz2 : w2.heap.size = w1.heap.size := by rw [← hw2, size_set]
        have HZ2 := Lib.hid hz2
        clear hw2 c0 c1 d0 d1 f1 lk hz2
        refine (told_any a _).mono ?_
        rintro e w3 ⟨v', rfl, ho3, hb3⟩
        have HO3 := Lib.hid (IntsAt.below HO2.out hb3); have HT3 := Lib.hid ho3; have HB3 := Lib.hid hb3
        have HIN3 := Lib.hid (HIN2.out.fr (S := fun _ => False) (Fr.below hb3) (fun _ _ => id))
        have HSP3 := Lib.hid (HSP2.out.below hb3)
        have hs3 := HB3.out.size
        have hs1 := HAF1.out.size
        have hz2 := HZ2.out
        have htl : (toldL a).length ≤ 1 := by unfold toldL; split <;> simp
        clear ho3 hb3 HIN2 HSP2 HO2
        go_wp2_with (refine wpList_append_rows (m := toldL a) rfl (.tmp 38) (.tmp 43) rfl (by rfl) HO3.out (by rfl) HT3.out.row (by omega) (by omega) ?_)
        intro v4 w4 ho4 hf4 hv4
        have hoff : ∀ x, Foot fb db mb P x → ¬ u5.ownBlock = some x := fun x hx e => by
          have h1 := (HO1.out.lt x e).1
          have h2 := hFl.out x (HFT.out x hx)
          omega
        have hin4 := HIN3.out.fr hf4 hoff
        obtain ⟨w5, hdel, hin5, hf5⟩ := hin4.delMeta p
        have hsp4 := HSP3.out.fr hf4 (fun e => by have := (HO1.out.lt _ e).1; omega)
        have hfm : F mb := HFT.out mb (.inr (.inr (.inl rfl)))
        have hsp5 := hsp4.fr hf5 (fun e => HFA1.out.off (by rw [e]; exact hfm))
        have hm2 : updM (updM m p (some (a, u - 1))) p none = updM m p none := by
          funext x
          by_cases e : x = p
          · rw [e, updM_self, updM_self]
          · rw [updM_other e, updM_other e, updM_other e]
        rw [hm2] at hin5
        have ho5 : OwnI w5 w.heap.size v4 (L ++ toldL a) := ho4.fr hf5 (fun g hg e => by
          have hmbl : mb < w.heap.size := hFl.out mb hfm
          have := (ho4.lt g hg).1
          omega)
        have c4 := cell_blk_some hin4.top (i := 1) rfl
        have HIN5 := Lib.hid hin5; have HSP5 := Lib.hid hsp5; have HO5 := Lib.hid ho5; have HF4 := Lib.hid hf4; have HF5 := Lib.hid hf5; have HFM := Lib.hid hfm
        clear hin4 hin5 hsp4 hsp5 ho5 ho4 hf4 hf5 hv4 hoff hm2 hfm
        go_wp2_with fail
        go_roundw
        case rel =>
          have e2 := HNE.out
          rw [HN1.out, if_neg (by omega)] at e2
          have s4 := HF4.out.size
          have s5 := HF5.out.size
          refine ⟨p, rfl, t, updM m p none, L ++ toldL a, _, mem_nodes.2 (.inr hpm), by omega, leave_next hpm HJ.out HM.out (by omega), by rw [e2, List.append_assoc], HFW.out.del, by rw [List.length_append]; omega, ⟨⟨db, mb, _, HIN5.out, fun x hx => ?_⟩, fun x hx => ?_, HFA1.out.off, HSP5.out⟩, ?_, HO5.out⟩
          · rcases hx with hx | hx | hx | ⟨k, hx⟩
            · exact HFT.out x (.inl hx)
            · exact HFT.out x (.inr (.inl hx))
            · exact HFT.out x (.inr (.inr (.inl hx)))
            · by_cases e : k = p
              · rw [e, updP_self] at hx; cases hx
              · rw [updP_other e] at hx
                exact HFT.out x (.inr (.inr (.inr ⟨k, hx⟩)))
          · have := HFA1.out.lt x hx; omega
          · have h12 : Fr F w w2 := HAF1.out.trans (HFR2.out.tell fun x hx => by rw [hx]; exact HFB.out)
            have h13 : Fr F w w3 := h12.trans (Fr.below HB3.out)
            have h14 : Fr F w w4 := h13.trans' HF4.out fun x hx e => by
              have := (HO1.out.lt x e).1
              omega
            exact h14.trans (HF5.out.tell fun x hx => by rw [hx]; exact HFM.out)
        case measure => simp only [RowKit.intOf]; omega
end Go.Proofs.YtklamgijikcnaaaDoor

namespace Go.Proofs.YtklamgijikcnaaaDoor
open Go.RowKit

section
variable {w : World} {fb : Nat} {d : Int → Int} {m : MM} {F : Nat → Prop}
theorem get_any (hF : FAt w fb d m F) (hI : Inv d m) (n : Int) :
    Calls Tryd.prog 16 #[.pointer (some ⟨fb, 0, none⟩), .int .i64 n] w fun e w' => e = .returned (.int .i64 (adr d m n)) ∧ w' = w := by
  obtain ⟨db, mb, P, hin, _⟩ := hF.ex
  have c0 := cell_blk_some hin.top (i := 0) rfl
  have c1 := cell_blk_some hin.top (i := 1) rfl
  have lkm := hin.lookM n
  have lkd := hin.lookD n
  have HI := Lib.hid hI
  cases hm : m n with
  | some v =>
    obtain ⟨a, u⟩ := v
    obtain ⟨b, hpb, hbb⟩ := hin.at hm
    rw [hpb] at lkm
    have d0 := cell_blk_some hbb (i := 0) rfl
    have hneg := (metasN_neg n (HI.out.j.dom n _ hm)).1
    have hr : adr d m n = a := by rw [adr_meta hneg]; unfold adrM; rw [hm]; rfl
    rw [hr]
    clear hm hF hin hpb hbb hr hI
    go_enter Tryd.func16, Tryd.ntmps16
    go_wp2_with fail
    go_ret
    exact ⟨rfl, rfl⟩
  | none =>
    rw [hin.gone hm] at lkm
    have hr : adr d m n = d n := by
      by_cases h0 : 0 ≤ n
      · exact adr_data h0
      · rw [adr_meta (by omega), HI.out.neg (by omega)]; unfold adrM; rw [hm]; rfl
    rw [hr]
    clear hm hF hin hr hI
    go_enter Tryd.func16, Tryd.ntmps16
    go_wp2_with fail
    go_ret
    exact ⟨rfl, rfl⟩
theorem has_any (hF : FAt w fb d m F) (n : Int) :
    Calls Tryd.prog 17 #[.pointer (some ⟨fb, 0, none⟩), .int .i64 n] w fun e w' => e = .returned (.bool (hasB d m n)) ∧ w' = w := by
  obtain ⟨db, mb, P, hin, _⟩ := hF.ex
  have c0 := cell_blk_some hin.top (i := 0) rfl
  have c1 := cell_blk_some hin.top (i := 1) rfl
  have lkm := hin.lookM n
  have lkd := hin.lookD n
  by_cases hd : d n = 0
  · have q : (d n != 0) = false := by simp [hd]
    have q2 : (d n == 0) = true := by simp [hd]
    cases hm : m n with
    | some v =>
      obtain ⟨a, u⟩ := v
      obtain ⟨b, hpb, hbb⟩ := hin.at hm
      rw [hpb] at lkm
      have hr : hasB d m n = true := by unfold hasB; rw [hm]; simp
      rw [hr]
      clear hm hF hin hpb hbb hr hd
      go_enter Tryd.func17, Tryd.ntmps17
      go_wp2_with fail
      go_ret
      exact ⟨rfl, rfl⟩
    | none =>
      rw [hin.gone hm] at lkm
      have hr : hasB d m n = false := by unfold hasB; rw [hm, hd]; simp
      rw [hr]
      clear hm hF hin hr hd
      go_enter Tryd.func17, Tryd.ntmps17
      go_wp2_with fail
      go_ret
      exact ⟨rfl, rfl⟩
  · have q : (d n != 0) = true := by simp [hd]
    have q2 : (d n == 0) = false := by simp [hd]
    have hr : hasB d m n = true := by unfold hasB; simp [hd]
    rw [hr]
    clear hF hin hr hd lkm
    go_enter Tryd.func17, Tryd.ntmps17
    go_wp2_with fail
    go_ret
    exact ⟨rfl, rfl⟩
end
end Go.Proofs.YtklamgijikcnaaaDoor
