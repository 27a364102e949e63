/- Walk of tree's drop once more: which nodes stay where they are. -/
import Derived.Test.YtoofcnehoffllaaGreatT44
namespace Go.Proofs.YtoofcnehoffllaaGreat
open Go.RowKit

section
variable {w w' : World} {tb nb cap : Nat} {P E : Nat → Option Nat} {V : Nat → Value} {M : TM}
set_option maxHeartbeats 2000000 in
set_option maxRecDepth 100000 in
theorem drop_keep {F : Nat → Prop} {p bp i : Nat} {q nd : Nd} {f : ByteArray → Option Nat} {s : ByteArray} {ob : Bool} {n : Int} (h : TIn w tb nb cap P E V M) (hFt : ∀ b, TFoot tb nb P E V b → F b)
    (hq : M p = some q) (hf : q.ents = some f) (hp : P p = some bp) (hs : f s = some i) (hm : M i = some nd) (hip : i ≠ p) (hi2 : i ≠ 2) (hl : 1 ≤ nd.links ∧ nd.links ≤ 100)
    (hno : nd.links = 1 → ∀ r t, r ≠ i → entN M r t = some i → r = p ∧ t = s) :
    Calls Tryz.prog 76 #[.pointer (some ⟨tb, 0, none⟩), placeA (.pointer (some ⟨bp, 0, none⟩)) s ob n] w fun e w' => e = .returned (.tuple #[]) ∧ ∃ nb' P' E' V', TIn w' tb nb' cap P' E' V' (dropM M p f s i nd) ∧ (∀ x, TFoot tb nb' P' E' V' x → F x) ∧ Fr F w w' ∧ ∀ j, j ≠ i → P' j = P j := by
  have hbp := h.node p bp q hp hq
  obtain ⟨pe, hE, hMp⟩ : ∃ pe, E p = some pe ∧ MapIs Value.string w pe (entF P f) := by
    have := h.ents p q hq
    rw [hf] at this; exact this
  obtain ⟨b, hb, hbn⟩ := h.at_ hm
  rw [hE] at hbp
  have c1 := cell_blk_some hbp (i := 1) rfl
  have hlk := hMp.look1 klS Tryz.underlying69 zero_node s
  clear hlk c1
  have hsv : (entF P f s).getD (.pointer none) = .pointer (some ⟨b, 0, none⟩) := by unfold entF; rw [hs]; show nptr (P i) = _; rw [hb]; rfl
  have HH := Lib.hid h; have HFT := Lib.hid hFt
  unfold placeA
  obtain ⟨w0, hw0⟩ : ∃ w0, w0 = w.alloc (.cells #[.pointer (some ⟨bp, 0, none⟩), .string s, .bool ob, .int .i64 n] 102) := ⟨_, rfl⟩
  have hB0 : Below w.heap.size w w0 := by rw [hw0]; exact (Below.refl _ w).alloc (Nat.le_refl _) _
  have hx : w0.heap[w.heap.size]? = some (.cells #[.pointer (some ⟨bp, 0, none⟩), .string s, .bool ob, .int .i64 n] 102 (0, 0)) := by rw [hw0]; exact blk_new rfl
  have h0 := h.below hB0
  have hMp0 : MapIs Value.string w0 pe (entF P f) := hMp.same (hB0.block _ hMp.lt)
  have hlk : ∀ n, (Instr.lookup 69 (.map (some pe)) (.string s) false).run Tryz.prog (w0.drewN n) = .ok (.pointer (some ⟨b, 0, none⟩)) (w0.drewN n) := fun n => by
    have := (hMp0.same (w' := w0.drewN n) rfl).look1 klS Tryz.underlying69 zero_node s
    rw [hsv] at this; exact this
  have c1 := cell_blk_some ((hB0.block _ (blk_lt hbp)).trans hbp) (i := 1) rfl
  have x0 := cell_blk_some hx (i := 0) rfl
  have x1 := cell_blk_some hx (i := 1) rfl
  have HB0 := Lib.hid hB0; have HX := Lib.hid hx; have H0 := Lib.hid h0; have HM0 := Lib.hid hMp0; have HBN := Lib.hid hbn; have HBP := Lib.hid hbp
  have HNO := Lib.hid hno
  have HQ := Lib.hid hq; have HF := Lib.hid hf; have HP := Lib.hid hp; have HS := Lib.hid hs; have HM := Lib.hid hm; have HE := Lib.hid hE; have HB := Lib.hid hb
  clear h hFt hB0 hx h0 hMp0 hMp hbn hbp hno hq hf hp hs hm hE hb hsv
  go_enter Tryz.func76, Tryz.ntmps76
  go_wp2_with fail
  try rw [← hw0]
  clear hw0
  generalize hxb : w.heap.size = xb at *
  have HXB := Lib.hid hxb
  clear hxb
  go_quiet (fail)
  generalize hw1 : w0.drewN _ = w1
  have hb01 : Below w0.heap.size w0 w1 := by rw [← hw1]; exact below_drewN (Below.refl _ w0) _
  have FR1 := Lib.hid ((Fr.below (S := fun _ => False) (by rw [HXB.out]; exact HB0.out)).trans (Fr.below hb01))
  have h1 := H0.out.below hb01
  have hx1 := (hb01.block _ (blk_lt HX.out)).trans HX.out
  have hMp1 : MapIs Value.string w1 pe (entF P f) := HM0.out.same (hb01.block _ HM0.out.lt)
  have hbp1 := h1.node p bp q HP.out HQ.out
  rw [HE.out] at hbp1
  clear hw1 c1 x0 x1 hlk
  obtain ⟨w2, hdel, hM2, hf2⟩ := (hMp1.same (w' := w1.drew) rfl).del klS Tryz.underlying69 s
  have c1 := cell_blk_some hbp1 (i := 1) rfl
  have x0 := cell_blk_some hx1 (i := 0) rfl
  have x1 := cell_blk_some hx1 (i := 1) rfl
  have hf12 : Fr (fun x => x = pe) w1 w2 := ((Fr.refl _ w1).drew).trans hf2
  rw [← entF_del] at hM2
  have h2 : TIn w2 tb nb cap P E V (setE M p (updE f s none)) := h1.mapset HQ.out HF.out HE.out hM2 (fun t j ht => by
    unfold updE at ht
    split at ht
    · cases ht
    · exact h1.ok.ent p t j (by rw [entN_of HQ.out, HF.out]; exact ht)) hf12
  have hm2 : setE M p (updE f s none) i = some nd := by rw [setE_o hip]; exact HM.out
  have hb2 := h2.node i b nd HB.out hm2
  have d3 := cell_blk_some hb2 (i := 3) rfl
  have g3 := free_blk (i := 3) hb2
  have hb3 := blk_set (i := 3) hb2 (.int .i64 (nd.links - 1))
  have hf3 : Fr (fun x => x = b) w2 (w2.setCell ⟨b, 3, none⟩ (.int .i64 (nd.links - 1))) := (Fr.refl (fun x => x = b) w2).setCell ⟨b, 3, none⟩ rfl _
  have hF3 : Fr (fun x => x = pe ∨ x = b) w (w2.setCell ⟨b, 3, none⟩ (.int .i64 (nd.links - 1))) := ((FR1.out.tell fun x hx => hx.elim).trans (hf12.tell fun x hx => .inl hx)).trans (hf3.tell fun x hx => .inr hx)
  have h3 : TIn (w2.setCell ⟨b, 3, none⟩ (.int .i64 (nd.links - 1))) tb nb cap P E (updV' V i (V i)) (setN (setE M p (updE f s none)) i (nd.links - 1) nd.data) := h2.nodeset hm2 HB.out hb3
    (own_frame (h2.data i nd hm2) hf3 fun g hg e => by
      rcases (h2.data i nd hm2).2 with hh | ⟨g2, cap', cur, e2, h1, hgg, hr'⟩
      · rw [hh.1] at hg; cases hg
      · rw [e2] at hg
        injection hg with hg
        have hg : g2 = g := hg
        rw [hg, e, hb2] at hgg
        injection hgg with hgg
        injection hgg with _ hgg _
        exact absurd hgg (by decide)) (fun j c h1 h2' => h2.vin j i c h2' h1) (hf3.tell fun x hx => .inl hx)
  obtain ⟨cs, hr3, hz3, hcs3⟩ := h3.row
  have hic := (h3.ok.low i _ (setN_i hm2)).2
  have e0 := cell_blk_some h3.top (i := 0) rfl
  have e1 := cell_blk_some hb3 (i := 0) rfl
  have e3 := cell_blk_some hb3 (i := 3) rfl
  have e4 := cell_blk_some hr3 (hcs3 i hic)
  have e5 := free_blk (i := i) hr3
  have H3 := Lib.hid h3; have HR3 := Lib.hid hr3; have HZ3 := Lib.hid hz3; have HCS3 := Lib.hid hcs3; have HF3 := Lib.hid hF3; have HM2 := Lib.hid hm2
  clear h1 hx1 hMp1 hM2 hf2 hbp1 H0 HX HM0 HB0 hb01 hf12 h2 hb2 hb3 hf3 h3 hr3 hz3 hcs3 hF3 hm2
  obtain ⟨hl1, hl2⟩ := hl
  generalize hL : nd.links = L at *
  have HL := Lib.hid hL
  clear hL
  go_wp2_with fail
  go_still_tail 7, (by kernel_rfl)
  change wpList _ _ _ _ _ w1.drew
  by_cases hL1 : L = 1
  · subst hL1
    have hz : (1 : Int) - 1 = 0 := rfl
    rw [hz] at H3 HR3 HF3 e0 e1 e3 e4 e5
    go_wp2_with fail
    obtain ⟨w3, hw3⟩ : ∃ w3, w3 = w2.setCell ⟨b, 3, none⟩ (.int .i64 0) := ⟨_, rfl⟩
    rw [← hw3] at H3 HR3 HF3 e0 e1 e3 e4 e5 ⊢
    clear hw3 d3 g3 hdel c1 x0 x1
    rw [HB.out] at e4
    have e4' : w3.cell? ⟨nb, i, none⟩ = some (.pointer (some ⟨b, 0, none⟩)) := e4
    have b0 : (0 : Int) ≤ (i : Int) := by omega
    have b1 : (i : Int) < (cap : Int) := by omega
    clear e4
    go_region_law (fail)
    all_goals
      go_wp2_with fail
      go_end0
      refine ⟨rfl, ?_⟩
      unfold dropM
      rw [HL.out, show (1 : Int) - 1 = 0 from rfl, if_pos rfl]
      have hf4 : Fr (fun x => x = nb) w3 (w3.setCell ⟨nb, i, none⟩ (.pointer none)).drew := ((Fr.refl (fun x => x = nb) w3).setCell ⟨nb, i, none⟩ rfl _).drew
      have hk := H3.out.kill (w' := (w3.setCell ⟨nb, i, none⟩ (.pointer none)).drew) (setN_i HM2.out) hi2 (fun r t hr ht => by
          rw [entN_setN, entN_setE HQ.out HF.out] at ht
          by_cases e : r = p
          · rw [if_pos e] at ht
            unfold updE at ht
            split at ht
            · cases ht
            · rename_i ne
              exact ne (HNO.out (by trivial) p t (fun e' => hip e'.symm) (by rw [entN_of HQ.out, HF.out]; exact ht)).2
          · rw [if_neg e] at ht
            exact e (HNO.out (by trivial) r t hr ht).1)
        ⟨_, blk_set (w := w3) HR3.out _, by rw [Array.size_setIfInBounds]; exact HZ3.out, fun j hj => by
          rw [Array.getElem?_setIfInBounds]
          by_cases e : i = j
          · rw [if_pos e, if_pos (by rw [HZ3.out]; omega), e, updO_self]; rfl
          · rw [if_neg e, updO_other (fun e' => e e'.symm)]; exact HCS3.out j hj⟩ hf4
      refine ⟨nb, _, _, _, hk, fun x hx => HFT.out x ?_, ?_, fun j hj => updO_other hj⟩
      · have po : ∀ {Q : Nat → Option Nat} {x b : Nat}, updO Q i none x = some b → Q x = some b := fun {Q x b} hx => by
          by_cases e : x = i
          · rw [e, updO_self] at hx; cases hx
          · rw [updO_other e] at hx; exact hx
        rcases hx with h | h | ⟨j, h⟩ | ⟨j, h⟩ | ⟨j, h⟩
        · exact .inl h
        · exact .inr (.inl h)
        · exact .inr (.inr (.inl ⟨j, po h⟩))
        · exact .inr (.inr (.inr (.inl ⟨j, po h⟩)))
        · refine .inr (.inr (.inr (.inr ⟨j, ?_⟩)))
          unfold updV' at h
          split at h
          · cases h
          · first
              | exact h
              | (split at h
                 · rename_i e; rw [e]; exact h
                 · exact h)
      · refine (HF3.out.tell fun x hx => ?_).trans (hf4.tell fun x hx => ?_)
        · rcases hx with h | h
          · exact HFT.out x (.inr (.inr (.inr (.inl ⟨p, by rw [h]; exact HE.out⟩))))
          · exact HFT.out x (.inr (.inr (.inl ⟨i, by rw [h]; exact HB.out⟩)))
        · exact HFT.out x (.inr (.inl hx))
  · have hne : L - 1 ≠ 0 := by omega
    have hne' : (L - 1 == 0) = false := by simpa using hne
    go_wp2_with fail
    go_end0
    refine ⟨rfl, ?_⟩
    unfold dropM
    rw [HL.out, if_neg hne]
    refine ⟨nb, P, E, _, H3.out, fun x hx => HFT.out x ?_, HF3.out.tell fun x hx => ?_, fun _ _ => rfl⟩
    · rcases hx with h | h | h | h | ⟨j, h⟩
      · exact .inl h
      · exact .inr (.inl h)
      · exact .inr (.inr (.inl h))
      · exact .inr (.inr (.inr (.inl h)))
      · refine .inr (.inr (.inr (.inr ⟨j, ?_⟩)))
        unfold updV' at h
        split at h
        · rename_i e; rw [e]; exact h
        · exact h
    · rcases hx with h | h
      · exact HFT.out x (.inr (.inr (.inr (.inl ⟨p, by rw [h]; exact HE.out⟩))))
      · exact HFT.out x (.inr (.inr (.inl ⟨i, by rw [h]; exact HB.out⟩)))
end
end Go.Proofs.YtoofcnehoffllaaGreat
