/- A range over a map whose keys are plain: what is done, what is left. -/
/- Walk of deep. -/
import Derived.Test.YtoofcnehoffllaaGreatMaps
import Derived.Test.YtoofcnehoffllaaGreatT23
namespace Go.Proofs.YtoofcnehoffllaaGreat
open Go.RowKit

theorem nodup_inj {α β : Type} {g : α → β} : ∀ {l : List α}, (l.map g).Nodup → ∀ {a b : α}, a ∈ l → b ∈ l → g a = g b → a = b
  | [], _, _, _, ha, _, _ => by cases ha
  | x :: l, h, a, b, ha, hb, e => by
    rw [List.map_cons, List.nodup_cons] at h
    rcases List.mem_cons.1 ha with rfl | ha'
    · rcases List.mem_cons.1 hb with rfl | hb'
      · rfl
      · exact absurd (List.mem_map.2 ⟨b, hb', e.symm⟩) h.1
    · rcases List.mem_cons.1 hb with rfl | hb'
      · exact absurd (List.mem_map.2 ⟨a, ha', e⟩) h.1
      · exact nodup_inj h.2 ha' hb' e
/-- The range at ri over the map at mb: the keys done; n entries are left. -/
def RngAt {α : Type} (ke : α → Value) (w : World) (ri mb : Nat) (f : α → Option Value) (done : List α) (n : Nat) : Prop :=
  ∃ (es : Array MapEntry) (clock : Nat) (seen : Array Nat), w.heap[ri]? = some (.mapIter (some mb) clock seen clock) ∧ w.heap[mb]? = some (.map es clock) ∧ MapKept.Stamped es clock ∧
    (∀ e ∈ es.toList, ∃ k, e.key = ke k ∧ f k = some e.val) ∧ (∀ k v, f k = some v → ∃ e ∈ es.toList, e.key = ke k ∧ e.val = v) ∧
    done.Nodup ∧ (∀ k ∈ done, (f k).isSome = true) ∧ (∀ e ∈ es.toList, seen.contains e.born = true ↔ ∃ k ∈ done, e.key = ke k) ∧ (leftOf es seen).size = n
section
variable {α : Type} {ke : α → Value} {P : Program} {K e t : TypeId} {d : TypeDesc} {w w' : World} {mb ri n : Nat} {f : α → Option Value} {done : List α}
theorem RngAt.lt (h : RngAt ke w ri mb f done n) : ri < w.heap.size ∧ mb < w.heap.size := by
  obtain ⟨es, clock, seen, hr, hm, _⟩ := h
  exact ⟨blk_lt hr, blk_lt hm⟩
theorem RngAt.fr {S : Nat → Prop} (h : RngAt ke w ri mb f done n) (hf : Fr S w w') (h1 : ¬ S ri) (h2 : ¬ S mb) : RngAt ke w' ri mb f done n := by
  obtain ⟨es, clock, seen, hr, hm, hh⟩ := h
  exact ⟨es, clock, seen, (hf.block ri (blk_lt hr) h1).trans hr, (hf.block mb (blk_lt hm) h2).trans hm, hh⟩
theorem RngAt.below (h : RngAt ke w ri mb f done n) (hb : Below w.heap.size w w') : RngAt ke w' ri mb f done n := h.fr (S := fun _ => False) (Fr.below hb) id id
theorem RngAt.start (h : MapIs ke w mb f) (_L : KL P K d ke) (ht : P.underlying t = some (.map K e)) :
    ∃ (o : Obj) (n : Nat), (Instr.range t (.map (some mb))).run P w = .ok (.pointer (some ⟨w.heap.size, 0, none⟩)) (w.alloc o) ∧ RngAt ke (w.alloc o) w.heap.size mb f [] n := by
  obtain ⟨es, c, hm, hs, h1, h2⟩ := h
  refine ⟨_, _, run_range_map (P := P) w t K e mb es c ht hm, es, c, #[], ?_, blk_old hm, hs, h1, h2, List.nodup_nil, (fun k hk => by cases hk), fun x _ => ?_, rfl⟩
  · exact blk_new rfl
  · simp
theorem RngAt.next (h : RngAt ke w ri mb f done n) (L : KL P K d ke) (ty : TypeId) :
    (n = 0 ∧ (∀ k, (f k).isSome = true ↔ k ∈ done) ∧ (Instr.next (.pointer (some ⟨ri, 0, none⟩)) false ty).run P w = .ok (.tuple #[.bool false]) w) ∨
    ∃ (k : α) (v : Value) (wN : World) (n' : Nat), f k = some v ∧ k ∉ done ∧ n' < n ∧ RngAt ke wN ri mb f (done ++ [k]) n' ∧ Fr (fun x => x = ri) w wN ∧
      (Instr.next (.pointer (some ⟨ri, 0, none⟩)) false ty).run P w = .ok (.tuple #[.bool true, ke k, v]) wN ∧ (Instr.entry (.pointer (some ⟨ri, 0, none⟩))).run P wN = .ok (.tuple #[ke k, v]) wN := by
  obtain ⟨es, clock, seen, hr, hm, hs, h1, h2, hn, hd, hse, hsz⟩ := h
  rcases run_next_at (P := P) w ty ri mb clock clock seen es clock hr hm hs.1 (Nat.le_refl _) with ⟨h0, hrun⟩ | ⟨x, hx, wq, hq, hrun⟩
  · refine .inl ⟨by omega, fun k => ⟨fun hk => ?_, hd k⟩, hrun⟩
    obtain ⟨v, hv⟩ := Option.isSome_iff_exists.1 hk
    obtain ⟨x, hx, hxk, _⟩ := h2 k v hv
    have hc : seen.contains x.born = true := by
      cases hc : seen.contains x.born with
      | true => rfl
      | false =>
        have : x ∈ leftOf es seen := by
          unfold leftOf
          exact Array.mem_filter.2 ⟨Array.mem_toList_iff.1 hx, by rw [hc]; rfl⟩
        have := Array.size_pos_of_mem this
        omega
    obtain ⟨k', hk', e'⟩ := (hse x hx).1 hc
    rw [L.inj _ _ (hxk.symm.trans e')]
    exact hk'
  · right
    obtain ⟨hem, hes⟩ := mem_left hx
    obtain ⟨k, hek, hfk⟩ := h1 x hem
    have hrl : ri < w.heap.size := blk_lt hr
    have hrm : mb ≠ ri := fun e => by rw [e, hr] at hm; injection hm with hm; cases hm
    obtain ⟨wN, hwN⟩ : ∃ wN, wN = ChangeMaps.setBlock wq ri (.mapIter (some mb) clock (seen.push x.born) clock) := ⟨_, rfl⟩
    have hfN : Fr (fun y => y = ri) w wN := by
      rw [hwN]
      rcases hq with rfl | rfl
      · exact Fr.setB _ _ _
      · exact (Fr.refl (fun y => y = ri) w).drew.trans (Fr.setB w.drew _ _)
    have hriN : wN.heap[ri]? = some (.mapIter (some mb) clock (seen.push x.born) clock) := by
      rw [hwN]
      rcases hq with rfl | rfl
      · exact setB_at hrl
      · exact setB_at (w := w.drew) hrl
    have hmN : wN.heap[mb]? = some (.map es clock) := (hfN.block mb (blk_lt hm) hrm).trans hm
    have hent := run_entry_at (P := P) wN ri mb clock seen es clock x hriN hmN hem hs.2.1
    have hshr := left_shrinks es seen x hx
    rw [← hwN] at hrun
    rw [hek] at hrun hent
    have hkd : k ∉ done := fun hk => by rw [(hse x hem).2 ⟨k, hk, hek⟩] at hes; cases hes
    refine ⟨k, x.val, wN, _, hfk, hkd, by omega, ⟨es, clock, seen.push x.born, hriN, hmN, hs, h1, h2, ?_, fun k' hk' => ?_, fun y hy => ?_, rfl⟩, hfN, hrun, hent⟩
    · rw [List.nodup_append]
      exact ⟨hn, by simp, fun a ha b hb e => by rw [List.mem_singleton] at hb; rw [e, hb] at ha; exact hkd ha⟩
    · rcases List.mem_append.1 hk' with hk' | hk'
      · exact hd k' hk'
      · rw [List.mem_singleton.1 hk', hfk]; rfl
    · have hc : (seen.push x.born).contains y.born = true ↔ seen.contains y.born = true ∨ y.born = x.born := by
        simp only [Array.contains_iff_mem, Array.mem_push]
      rw [hc, hse y hy]
      constructor
      · rintro (⟨k', hk', e'⟩ | e')
        · exact ⟨k', List.mem_append_left _ hk', e'⟩
        · refine ⟨k, by simp, ?_⟩
          have : y = x := by
            have hnd := hs.2.1
            exact nodup_inj hnd hy hem e'
          rw [this]; exact hek
      · rintro ⟨k', hk', e'⟩
        rcases List.mem_append.1 hk' with hk' | hk'
        · exact .inl ⟨k', hk', e'⟩
        · rw [List.mem_singleton] at hk'
          subst hk'
          right
          have hpw := hs.2.2
          have : y = x := by
            by_cases e : y = x
            · exact e
            · exfalso
              have hpw := (MapKept.stamped_iff es clock).1 hs
              rcases List.pairwise_iff_getElem.1 hpw.2.2 with hpp
              obtain ⟨a, ha, hya⟩ := List.mem_iff_getElem.1 hy
              obtain ⟨b, hb, hxb⟩ := List.mem_iff_getElem.1 hem
              rcases Nat.lt_trichotomy a b with hab | hab | hab
              · exact hpp a b ha hb hab (by rw [hya, hxb, e', hek])
              · subst hab; exact e (by rw [← hya, ← hxb])
              · exact hpp b a hb ha hab (by rw [hya, hxb, e', hek])
          rw [this]
end
/-- How many entries are left. -/
def rngLeft (w : World) (ri mb : Nat) : Nat := match w.heap[ri]?, w.heap[mb]? with
  | some (.mapIter _ _ seen _), some (.map es _) => (leftOf es seen).size
  | _, _ => 0
theorem RngAt.left {α : Type} {ke : α → Value} {w : World} {mb ri n : Nat} {f : α → Option Value} {done : List α} (h : RngAt ke w ri mb f done n) : rngLeft w ri mb = n := by
  obtain ⟨es, clock, seen, hr, hm, _, _, _, _, _, _, hsz⟩ := h
  unfold rngLeft
  rw [hr, hm]
  exact hsz
end Go.Proofs.YtoofcnehoffllaaGreat

namespace Go.Proofs.YtoofcnehoffllaaGreat
open Go.RowKit

section
variable {tb nb cap : Nat} {P E : Nat → Option Nat} {V : Nat → Value} {M : TM}
theorem goE_cons {e : EM} {i : Nat} {s : ByteArray} {l : List ByteArray} : goE e i (s :: l) = (e i s).bind fun j => goE e j l := rfl
/-- What the longest path below a node has more, as far as it is seen. -/
structure DeepSt (M : TM) (i : Nat) (ds : List ByteArray) (m : Int) : Prop where
  lo : 1 ≤ m ∧ m ≤ 255
  hit : ∃ l j, goE (entN M) i l = some j ∧ m = longN l + dirB M j
  all : ∀ s ∈ ds, ∀ l j, goE (entN M) i (s :: l) = some j → longN (s :: l) + dirB M j ≤ m
theorem DeepSt.start {i : Nat} (hd : isDir M i = true) : DeepSt M i [] 1 := ⟨by decide, ⟨[], i, rfl, by unfold dirB; rw [hd]; decide⟩, fun s hs => by cases hs⟩
theorem DeepSt.step {lp : List ByteArray} {i j : Nat} {s : ByteArray} {ds : List ByteArray} {m D : Int} (h : DeepSt M i ds m) (hS : TS M) (hl : goE (entN M) 2 lp = some i) (hs : entN M i s = some j) (hD : DeepIs M j D) : DeepSt M i (ds ++ [s]) (max m (1 + (s.size : Int) + D)) := by
  obtain ⟨⟨l, k, h1, h2⟩, h3⟩ := hD
  have hg : goE (entN M) i (s :: l) = some k := by rw [goE_cons, hs]; exact h1
  have hlo := h.lo
  refine ⟨⟨by omega, ?_⟩, ?_, fun t ht l' j' hg' => ?_⟩
  · have h4 : goE (entN M) 2 (lp ++ (s :: l)) = some k := by rw [goE_append, hl]; exact hg
    have := hS.short (lp ++ (s :: l)) k (by simp) h4
    rw [longN_append, longN_cons] at this
    have := longN_len lp
    omega
  · by_cases hm : 1 + (s.size : Int) + D ≤ m
    · rw [Int.max_eq_left hm]; exact h.hit
    · rw [Int.max_eq_right (by omega)]
      exact ⟨s :: l, k, hg, by rw [longN_cons]; omega⟩
  · rcases List.mem_append.1 ht with ht | ht
    · have := h.all t ht l' j' hg'
      omega
    · rw [List.mem_singleton] at ht
      subst ht
      rw [goE_cons, hs] at hg'
      have := h3 l' j' hg'
      rw [longN_cons]
      omega
theorem DeepSt.done {i : Nat} {ds : List ByteArray} {m : Int} (h : DeepSt M i ds m) (hall : ∀ s, (entN M i s).isSome = true → s ∈ ds) : DeepIs M i m := by
  refine ⟨h.hit, fun l j hg => ?_⟩
  cases l with
  | nil =>
    have := dirB_bd M j
    have := h.lo.1
    simp only [longN, List.map_nil, List.sum_nil]
    omega
  | cons s l =>
    refine h.all s (hall s ?_) l j hg
    rw [goE_cons] at hg
    cases he : entN M i s with
    | none => rw [he] at hg; cases hg
    | some k => rfl
theorem DeepIs.file {i : Nat} (hd : isDir M i = false) : DeepIs M i 0 := by
  refine ⟨⟨[], i, rfl, by unfold dirB; rw [hd]; decide⟩, fun l j hg => ?_⟩
  cases l with
  | nil => injection hg with hg; subst hg; unfold dirB; rw [hd]; decide
  | cons s l =>
    rw [goE_cons] at hg
    cases he : entN M i s with
    | none => rw [he] at hg; cases hg
    | some k => rw [ent_dir he] at hd; cases hd
theorem DeepIs.bd {lp : List ByteArray} {i : Nat} {D : Int} (h : DeepIs M i D) (hS : TS M) (hl : goE (entN M) 2 lp = some i) : 0 ≤ D ∧ D ≤ 256 := by
  obtain ⟨⟨l, j, h1, h2⟩, _⟩ := h
  have hb := dirB_bd M j
  have hn := longN_len l
  have h4 : goE (entN M) 2 (lp ++ l) = some j := by rw [goE_append, hl]; exact h1
  have := (hS.len h4).1
  rw [longN_append] at this
  have := longN_len lp
  omega
set_option maxHeartbeats 4000000 in
set_option maxRecDepth 100000 in
theorem deep_any (hG : TG M cap) (hS : TS M) : ∀ (fuel : Nat) (lp : List ByteArray) (i : Nat) (w : World), goE (entN M) 2 lp = some i → 256 ≤ fuel + lp.length → TIn w tb nb cap P E V M →
    Calls Tryz.prog 135 #[nptr (P i)] w fun e w' => ∃ D, e = .returned (.int .i64 D) ∧ DeepIs M i D ∧ Below w.heap.size w w' := by
  intro fuel
  induction fuel with
  | zero =>
    intro lp i w hl hf
    have := (hS.len hl).2
    omega
  | succ fuel ih =>
    intro lp i w hl hf h
    have hi : (M i).isSome = true := by
      rcases snoc_cases lp with rfl | ⟨r, s, rfl⟩
      · injection hl with hl; subst hl; exact hG.ok.root_there
      · obtain ⟨p, _, hp⟩ := goE_snoc.1 hl
        exact hG.ok.ent p s i hp
    have HD := Lib.hid (dir_any h hi)
    obtain ⟨nd, hm⟩ := Option.isSome_iff_exists.1 hi
    obtain ⟨b, hp, hb⟩ := h.at_ hm
    have c1 := cell_blk_some hb (i := 1) rfl
    rw [hp] at HD ⊢
    unfold nptr at *
    cases hdi : isDir M i with
    | false =>
      have HR := Lib.hid (DeepIs.file hdi)
      rw [hdi] at HD
      clear h hi hm hp hb hdi ih
      go_enter Tryz.func135, Tryz.ntmps135
      go_wp2_with fail
      refine HD.out.mono ?_
      rintro e w1 ⟨rfl, rfl⟩
      go_wp2_with fail
      go_ret
      exact ⟨0, rfl, HR.out, Below.refl _ _⟩
    | true =>
      have hE : ∃ eb f, E i = some eb ∧ nd.ents = some f ∧ MapIs Value.string w eb (entF P f) := by
        have := h.ents i nd hm
        have hdi' := hdi
        unfold isDir at hdi'
        rw [hm] at hdi'
        have hdi' : nd.ents.isSome = true := hdi'
        cases hn : nd.ents with
        | none => rw [hn] at hdi'; cases hdi'
        | some f =>
          rw [hn] at this
          obtain ⟨eb, h1, h2⟩ := this
          exact ⟨eb, f, h1, rfl, h2⟩
      obtain ⟨eb, f, hE, hf2, hMp⟩ := hE
      have hef := ent_fun hm hf2
      obtain ⟨ob, n0, hrange, hrg⟩ := RngAt.start hMp klS (t := 69) (P := Tryz.prog) (K := 9) (e := 68) Tryz.underlying69
      rw [hE] at c1
      rw [hdi] at HD
      have hbw : Below w.heap.size w (w.alloc ob) := (Below.refl _ w).alloc (Nat.le_refl _) _
      have HL := Lib.hid hl; have HFU := Lib.hid hf; have HT := Lib.hid h; have IH := Lib.hid ih; have HEF := Lib.hid hef; have HRG := Lib.hid hrg; have HBW := Lib.hid hbw; have HDI := Lib.hid hdi; have HGS := Lib.hid hG; have HSS := Lib.hid hS
      clear h hi hm hp hb hdi ih hl hf hE hf2 hMp hef hrg hbw hG hS
      go_enter Tryz.func135, Tryz.ntmps135
      go_wp2_with fail
      refine HD.out.mono ?_
      rintro e w1 ⟨rfl, hw1⟩
      obtain rfl := hw1.symm
      clear HD
      go_wp2_with fail
      clear hrange c1
      generalize hwa : w.alloc ob = wa at *
      generalize hri : w.heap.size = ri at *
      have HRI := Lib.hid hri
      clear hwa hri
      go_loopw [3] (fun most wy => ∃ ds n m, most = .int .i64 m ∧ RngAt Value.string wy ri eb (entF P f) ds n ∧ Below ri w wy ∧ DeepSt M i ds m) (fun _ wy => rngLeft wy ri eb)
      case atStart => exact ⟨[], n0, 1, rfl, HRG.out, HBW.out, .start HDI.out⟩
      case round =>
        obtain ⟨ds, n, m, rfl, hrg, hbw, hst⟩ := hrel
        have HLEFT := Lib.hid hrg.left
        have HST := Lib.hid hst; have HBY := Lib.hid hbw
        rcases hrg.next klS (P := Tryz.prog) 0 with ⟨-, hall, hrun⟩ | ⟨s, v, wN, n', hs, hsd, hlt, hrgN, hfN, hrun, hent⟩
        · have HAL := Lib.hid hall
          clear hrg hall hst hbw HRG HBW
          go_wp2_with fail
          go_ret
          refine ⟨m, rfl, HST.out.done fun s hs => (HAL.out s).1 ?_, by rw [HRI.out]; exact HBY.out⟩
          rw [HEF.out] at hs
          unfold entF
          cases he : f s with
          | none => rw [he] at hs; cases hs
          | some j => rfl
        · obtain ⟨j, hj, rfl⟩ : ∃ j, f s = some j ∧ nptr (P j) = v := by
            unfold entF at hs
            cases he : f s with
            | none => rw [he] at hs; cases hs
            | some j => rw [he] at hs; injection hs with hs; exact ⟨j, rfl, hs⟩
          have hen : entN M i s = some j := by rw [HEF.out]; exact hj
          have hbN : Below ri w wN := HBY.out.trans (hfN.toBelow (by have := hrg.lt.1; omega) fun x hx => by omega)
          have hgj : goE (entN M) 2 (lp ++ [s]) = some j := goE_snoc.2 ⟨i, HL.out, hen⟩
          have HC := Lib.hid (IH.out (lp ++ [s]) j wN hgj (by have := HFU.out; rw [List.length_append, List.length_singleton]; omega) (HT.out.below (by rw [HRI.out]; exact hbN)))
          have HGJ := Lib.hid hgj; have HEN := Lib.hid hen
          obtain ⟨ndj, hmj⟩ := Option.isSome_iff_exists.1 (HGS.out.ok.ent i s j hen)
          obtain ⟨bj, hpj, _⟩ := HT.out.at_ hmj
          have hsz := (nameE_len (HSS.out.nam i s j hen)).1
          have hss := Lib.size_eq s
          have s1 : (s.size : Int) ≤ 14 := by omega
          have hlo := hst.lo
          obtain ⟨m1, m2⟩ := hlo
          rw [hpj] at HC hrun hent
          unfold nptr at hrun hent
          rw [Option.map_some] at HC hrun hent
          have HRN := Lib.hid hrgN; have HBN := Lib.hid hbN; have HLT := Lib.hid hlt
          clear hrg hst hbw HRG HBW hs hsd hlt hrgN hfN hj hen hbN hgj hmj hpj hsz hss IH
          go_wp2_with fail
          refine HC.out.mono ?_
          rintro e w2 ⟨D, rfl, hD, hb2⟩
          obtain ⟨d1, d2⟩ := hD.bd HSS.out HGJ.out
          have hr2 := HRN.out.below hb2
          have hb02 : Below ri w w2 := below_call HBN.out hb2 (by rw [HRI.out]; exact Nat.le_refl _)
          have hst2 := HST.out.step HSS.out HL.out HEN.out hD
          have HR2 := Lib.hid hr2; have HB2 := Lib.hid hb02; have HST2 := Lib.hid hst2
          clear hb2 hr2 hb02 hst2 hD HC HRN HBN hrun hent
          go_wp2_with fail
          go_roundw
          case rel => exact ⟨_, _, _, rfl, HR2.out, HB2.out, HST2.out⟩
          case measure => rw [HLEFT.out, HR2.out.left]; exact HLT.out
end
end Go.Proofs.YtoofcnehoffllaaGreat
