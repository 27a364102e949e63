/- Walks of gone, Unlink, Rmdir. -/
import Derived.Test.YtoofcnehoffllaaT15
namespace Go.Proofs.Ytoofcnehoffllaa
open Go.RowKit

/-- What gone answers, and what the tree is then. -/
noncomputable def goneN (M : TM) (s : ByteArray) (dir : Bool) : Int × TM :=
  if parE s ≠ 0 then (parE s, M) else match lookN M s with
    | .inr c => (c, M)
    | .inl i => if wrongN M i dir ≠ 0 then (wrongN M i dir, M) else match leadN M 2 (parN s) with
      | .inr _ => (0, M)
      | .inl p => (0, dropT M p (parL s) i)
theorem par_split {s : ByteArray} (h : parE s = 0) : splitE s = 0 ∧ splitN s = parN s ++ [parL s] := by
  unfold parE at h
  split at h
  · rename_i h0
    split at h
    · cases h
    · rename_i hne
      have hp : parE s = 0 := by unfold parE; rw [if_pos h0, if_neg hne]
      refine ⟨h0, ?_⟩
      unfold parN parL
      rw [if_pos hp, if_pos hp]
      have hl : 0 < (splitN s).length := List.length_pos_iff.2 hne
      have hg : (splitN s).getD ((splitN s).length - 1) ⟨#[]⟩ = (splitN s)[(splitN s).length - 1]'(by omega) := by
        rw [List.getD_eq_getElem?_getD, List.getElem?_eq_getElem (by omega)]; rfl
      rw [hg, List.take_append_getElem (by omega), List.take_of_length_le (by omega)]
  · rename_i h0; exact absurd h h0
section
variable {w : World} {tb nb cap : Nat} {P E : Nat → Option Nat} {V : Nat → Value} {M : TM}
theorem look_par {s : ByteArray} {i : Nat} (hp : parE s = 0) (hl : lookN M s = .inl i) : ∃ p, leadN M 2 (parN s) = .inl p ∧ entN M p (parL s) = some i := by
  obtain ⟨h0, hs⟩ := par_split hp
  unfold lookN at hl
  rw [if_neg (by rw [h0]; simp)] at hl
  cases hq : leadN M 2 (splitN s) with
  | inr c => rw [hq] at hl; cases hl
  | inl j =>
    rw [hq] at hl
    have hl : (if splitD s && !isDir M j then (.inr 20 : Nat ⊕ Int) else .inl j) = .inl i := hl
    split at hl
    · cases hl
    · injection hl with hl
      subst hl
      rw [hs] at hq
      obtain ⟨p, h1, h2⟩ := goE_snoc.1 ((lead_goE _ _ _).1 hq)
      exact ⟨p, (lead_goE _ _ _).2 h1, h2⟩
theorem wrong_none {i : Nat} {dir : Bool} (h : wrongN M i dir = 0) : ∀ t, entN M i t = none := by
  intro t
  cases hd : isDir M i with
  | false =>
    cases hq : entN M i t with
    | none => rfl
    | some j => have := ent_dir hq; rw [hd] at this; cases this
  | true =>
    unfold wrongN at h
    cases dir with
    | false => rw [if_neg (by simp), hd] at h; simp at h
    | true =>
      rw [if_pos rfl, hd, if_pos rfl] at h
      cases hh : hasN M i with
      | true => rw [hh] at h; simp at h
      | false =>
        unfold hasN at hh
        cases hq : entN M i t with
        | none => rfl
        | some j => simp at hh; exact absurd hq (hh t j)
theorem place_good {s : ByteArray} {p : Nat} (hp : parE s = 0) (hl : leadN M 2 (parN s) = .inl p) (hd : isDir M p = true) : placeV P M s = .tuple #[placeA (nptr (P p)) (parL s) (splitD s) (longN (parN s ++ [parL s])), .int .i64 0] := by
  unfold placeV
  rw [if_neg (by rw [hp]; simp), hl]
  show Value.tuple #[_, .int .i64 (if isDir M p then 0 else 20)] = _
  rw [hd]; rfl
theorem TLeft.from {F : Nat → Prop} {w5 w' : World} (h : TLeft w5 w' tb cap F M) (hb : Below w.heap.size w w5) : TLeft w w' tb cap F M := by
  obtain ⟨⟨nb, P, E, V, hT, hF⟩, hfr⟩ := h
  exact ⟨⟨nb, P, E, V, hT, fun b hb' => (hF b hb').imp id fun h => Nat.le_trans hb.size h⟩, (Fr.below hb).trans hfr⟩
/-- What a node that shall be gone is asked: as a file, or as a directory. -/
def askF (dir : Bool) : FuncId := if dir then 30 else 29
theorem ask_any (h : TIn w tb nb cap P E V M) {i : Nat} (hi : (M i).isSome = true) (dir : Bool) :
    Calls Try.prog (askF dir) #[nptr (P i)] w fun e w' => e = .returned (.int .i64 (wrongN M i dir)) ∧ w' = w := by
  cases dir
  · exact notFile_any h hi
  · exact notEmpty_any h hi
theorem ask_enters (dir : Bool) : ∀ args w, (callFunc (askF dir) args).run Try.prog w = .ok (.enter (askF dir) args) w := by
  cases dir
  · exact enters_of Try.func29 (by kernel_rfl) rfl
  · exact enters_of Try.func30 (by kernel_rfl) rfl
set_option maxHeartbeats 2000000 in
set_option maxRecDepth 100000 in
theorem gone_any {F : Nat → Prop} (hAt : TAt w tb cap F M) (hG : TG M cap) (s : ByteArray) (hs : s.size ≤ 1000000) (dir : Bool) :
    Calls Try.prog 28 #[.pointer (some ⟨tb, 0, none⟩), .string s, .func (.func (askF dir)) #[] #[]] w fun e w' => e = .returned (.int .i64 (goneN M s dir).1) ∧ TLeft w w' tb cap F (goneN M s dir).2 := by
  obtain ⟨nb, P, E, V, h, hFt⟩ := hAt
  have HFT := Lib.hid hFt; have HT := Lib.hid h; have HG := Lib.hid hG; have HSZ := Lib.hid hs
  have HP := Lib.hid (parent_any s hs w)
  clear hFt h hG hs
  by_cases hE : parE s = 0
  · have HE := Lib.hid hE
    unfold ParPost at HP
    rw [hE] at HP
    clear hE
    go_enter Try.func28, Try.ntmps28
    go_wp2_with fail
    refine HP.out.mono ?_
    rintro e w1 ⟨v, rfl, -, hb1, -⟩
    have HB1 := Lib.hid hb1
    have HL := Lib.hid (look_any (HT.out.below hb1) s HSZ.out)
    clear hb1 HP
    go_wp2_with fail
    refine HL.out.mono ?_
    rintro e w2 ⟨rfl, hb2⟩
    have HB2 := Lib.hid (below_call HB1.out hb2 (Nat.le_refl _))
    have H2 := Lib.hid (HT.out.below HB2.out)
    clear hb2 HL
    cases hq : lookN M s with
    | inr c =>
      have hc := look_code hq
      have HRES : Hid (goneN M s dir = (c, M)) := Lib.hid (by unfold goneN; rw [if_neg (by rw [HE.out]; simp), hq])
      have hc2 : (c != 0) = true := by simp [hc]
      have HLT := Lib.hid (TLeft.same HT.out HFT.out HB2.out)
      clear hq hc
      unfold leadV
      go_wp2_with fail
      go_ret
      rw [HRES.out]
      exact ⟨rfl, HLT.out⟩
    | inl i =>
      have hi := look_isin HT.out hq
      have HA := Lib.hid (ask_any H2.out hi dir)
      have HQ := Lib.hid hq
      obtain ⟨ndi, hmi⟩ := Option.isSome_iff_exists.1 hi
      obtain ⟨bi, hpi, _⟩ := H2.out.at_ hmi
      have HMI := Lib.hid hmi
      have HLV : Hid (leadV P (.inl i) = .tuple #[.pointer (some ⟨bi, 0, none⟩), .int .i64 0]) := Lib.hid (by show Value.tuple #[nptr (P i), _] = _; rw [hpi]; rfl)
      rw [hpi] at HA
      rw [HLV.out]
      unfold nptr at HA
      clear hq hi hmi hpi HLV
      have hent := ask_enters dir
      generalize askF dir = fid at *
      by_cases hw : wrongN M i dir = 0
      · have HW := Lib.hid hw
        rw [hw] at HA
        obtain ⟨p, hlp, hep⟩ := look_par HE.out HQ.out
        have HLP := Lib.hid hlp; have HEP := Lib.hid hep
        have HP2 := Lib.hid (place_any H2.out s HSZ.out)
        have HRES : Hid (goneN M s dir = (0, dropT M p (parL s) i)) := Lib.hid (by
          unfold goneN
          rw [if_neg (by rw [HE.out]; simp), HQ.out]
          show (if wrongN M i dir ≠ 0 then _ else match leadN M 2 (parN s) with | .inr _ => _ | .inl p => _) = _
          rw [if_neg (by rw [hw]; simp), hlp])
        obtain ⟨nq, f, hmq, hfq⟩ := isDir_there (ent_dir hep)
        obtain ⟨bp, hbp, _⟩ := H2.out.at_ hmq
        have hpv := place_good (P := P) HE.out hlp (ent_dir hep)
        rw [hbp] at hpv
        have hef := ent_fun hmq hfq
        rw [hpv] at HP2
        have HMQ := Lib.hid hmq; have HFQ := Lib.hid hfq; have HBP := Lib.hid hbp; have HEF := Lib.hid hef
        clear hw hlp hep hmq hfq hbp hpv hef
        unfold nptr placeA at HP2
        go_wp2_with fail
        refine HA.out.mono ?_
        rintro e w3 ⟨rfl, rfl⟩
        clear HA hent
        go_wp2_with fail
        refine HP2.out.mono ?_
        rintro e w4 ⟨rfl, hb4⟩
        have HBA := Lib.hid (below_call (below_call HB2.out hb4 (Nat.le_refl _)) (show Below w4.heap.size w4 (w4.alloc (.cells #[.pointer (some ⟨bp, 0, none⟩), .string (parL s), .bool (splitD s), .int .i64 (longN (parN s ++ [parL s]))] 81)) from (Below.refl _ w4).alloc (Nat.le_refl _) _) (Nat.le_refl _))
        have hip : i ≠ p := fun e => by have := wrong_none HW.out (parL s); rw [e, HEP.out] at this; cases this
        have hi2 : i ≠ 2 := fun e => HG.out.noroot p (parL s) (by rw [HEP.out, e])
        have hlk := HG.out.lk i (HG.out.ok.ent p (parL s) i HEP.out)
        rw [lkN_of HMI.out] at hlk
        have HDR := Lib.hid (drop_any (ob := splitD s) (n := longN (parN s ++ [parL s])) (HT.out.below HBA.out) HFT.out HMQ.out HFQ.out HBP.out (s := parL s) (i := i) (by rw [← HEF.out]; exact HEP.out) HMI.out hip hi2 ⟨hlk.1, hlk.2.1⟩ (fun h1 r t _ ht => HG.out.one (by rw [lkN_of HMI.out]; exact h1) HEP.out ht))
        have HDT : Hid (dropT M p (parL s) i = dropM M p f (parL s) i ndi) := Lib.hid (by unfold dropT; rw [HMI.out]; show dropM M p (entN M p) _ i ndi = _; rw [HEF.out])
        clear hip hi2 hlk hb4 HP2
        unfold placeA at HDR
        go_wp2_with fail
        refine HDR.out.mono ?_
        rintro e w5 ⟨rfl, hl5⟩
        have HL5 := Lib.hid (hl5.from HBA.out)
        clear hl5
        go_wp2_with fail
        go_ret
        rw [HRES.out]
        exact ⟨rfl, by rw [HDT.out]; exact HL5.out⟩
      · have HRES : Hid (goneN M s dir = (wrongN M i dir, M)) := Lib.hid (by
          unfold goneN
          rw [if_neg (by rw [HE.out]; simp), HQ.out]
          show (if wrongN M i dir ≠ 0 then _ else _) = _
          rw [if_pos hw])
        have HLT := Lib.hid (TLeft.same HT.out HFT.out HB2.out)
        have hc2 : (wrongN M i dir != 0) = true := by simp [hw]
        generalize wrongN M i dir = c at *
        clear hw
        go_wp2_with fail
        refine HA.out.mono ?_
        rintro e w3 ⟨rfl, rfl⟩
        go_wp2_with fail
        go_ret
        rw [HRES.out]
        exact ⟨rfl, HLT.out⟩
  · have HRES : Hid (goneN M s dir = (parE s, M)) := Lib.hid (by unfold goneN; rw [if_pos hE])
    have hc2 : (parE s != 0) = true := by simp [hE]
    unfold ParPost at HP
    generalize parE s = c at *
    clear hE
    go_enter Try.func28, Try.ntmps28
    go_wp2_with fail
    refine HP.out.mono ?_
    rintro e w1 ⟨v, rfl, -, hb1, -⟩
    have HLT := Lib.hid (TLeft.same HT.out HFT.out hb1)
    clear hb1 HP
    go_wp2_with fail
    go_ret
    rw [HRES.out]
    exact ⟨rfl, HLT.out⟩
end
end Go.Proofs.Ytoofcnehoffllaa
