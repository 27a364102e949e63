/- Walks of marlref08.Split and marlref08.Parent, for a seat with tree/XP1 (name/XN4, XN6). -/
/- The reference's tree in memory; walks of entry. -/
/- Walks of the reference's Lead, Look, file. -/
/- Walks of the reference's file, place, long, begins. -/
/- Walk of the reference's with. -/
import Derived.Test.YtoofcnehoffllaaGreatP2
import Derived.Test.YtoofcnehoffllaaGreatT2
import Derived.Test.YtoofcnehoffllaaGreatGRows
import Derived.Test.YtoofcnehoffllaaGreatT31
namespace Go.Proofs.YtoofcnehoffllaaGreat
open Go.RowKit

theorem firstE_bad : ∀ (l : List ByteArray) (x : ByteArray) (r : List ByteArray), (∀ y ∈ l, nameE y.data.toList = 0) → nameE x.data.toList ≠ 0 → firstE (l ++ x :: r) = nameE x.data.toList
  | [], x, r, _, hx => by rw [List.nil_append, firstE, if_neg hx]
  | y :: l, x, r, h, hx => by rw [List.cons_append, firstE, if_pos (h y (by simp))]; exact firstE_bad l x r (fun z hz => h z (by simp [hz])) hx

theorem infoStr : (Tryz.prog.info? 9).map (fun i => (i.zero, i.size, i.bytes)) = some (some (.string ⟨#[]⟩), 1, 16) := by kernel_rfl

/-- How far marlref08.Split has come. -/
structure SplitSt (s : ByteArray) (k : Nat) (N : List ByteArray) (S : ByteArray) : Prop where
  eq : N ++ (fieldsB S.data.toList (s.data.toList.drop k)).map mkS = splitL s
  good : ∀ x ∈ N, nameE x.data.toList = 0
  size : S.size ≤ k
  count : N.length ≤ k
  fin : k = s.size + 1 → S.data.toList = []
theorem SplitSt.char {s : ByteArray} {k : Nat} {N : List ByteArray} {S T : ByteArray} (h : SplitSt s k N S) (x : UInt8) (hx : s.data.toList[k]? = some x) (h47 : x ≠ 47) (hT : T.data.toList = S.data.toList ++ [x]) : SplitSt s (k + 1) N T := by
  have hl : k < s.data.toList.length := (List.getElem?_eq_some_iff.1 hx).1
  have hd : s.data.toList.drop k = x :: s.data.toList.drop (k + 1) := by
    rw [List.drop_eq_getElem_cons hl, (List.getElem?_eq_some_iff.1 hx).2]
  refine ⟨?_, h.good, ?_, by have := h.count; omega, fun he => ?_⟩
  · have := h.eq
    rw [hd, fieldsB, if_neg h47] at this
    rw [hT]; exact this
  · rw [Lib.size_eq, hT, List.length_append, List.length_singleton, ← Lib.size_eq]
    have := h.size; omega
  · rw [← Lib.size_eq] at hl; omega
theorem SplitSt.slash {s : ByteArray} {k : Nat} {N : List ByteArray} {S : ByteArray} (h : SplitSt s k N S) (hx : k = s.size ∨ s.data.toList[k]? = some 47) (hS : S.data.toList = []) : SplitSt s (k + 1) N ⟨#[]⟩ := by
  refine ⟨?_, h.good, Nat.zero_le _, by have := h.count; omega, fun _ => rfl⟩
  have he := h.eq
  rcases hx with rfl | hx
  · have h1 : s.data.toList.drop s.size = [] := List.drop_eq_nil_of_le (by rw [← Lib.size_eq]; exact Nat.le_refl _)
    have h2 : s.data.toList.drop (s.size + 1) = [] := List.drop_eq_nil_of_le (by rw [← Lib.size_eq]; omega)
    rw [h1, hS] at he
    rw [h2]; exact he
  · have hl : k < s.data.toList.length := (List.getElem?_eq_some_iff.1 hx).1
    have hd : s.data.toList.drop k = 47 :: s.data.toList.drop (k + 1) := by
      rw [List.drop_eq_getElem_cons hl, (List.getElem?_eq_some_iff.1 hx).2]
    rw [hd, fieldsB_slash, if_pos hS] at he
    exact he
theorem SplitSt.piece {s : ByteArray} {k : Nat} {N : List ByteArray} {S : ByteArray} (h : SplitSt s k N S) (hx : k = s.size ∨ s.data.toList[k]? = some 47) (hS : S.data.toList ≠ []) :
    ∃ r, N ++ S :: r = splitL s ∧ r = (fieldsB [] (s.data.toList.drop (k + 1))).map mkS := by
  have he := h.eq
  rcases hx with rfl | hx
  · have h1 : s.data.toList.drop s.size = [] := List.drop_eq_nil_of_le (by rw [← Lib.size_eq]; exact Nat.le_refl _)
    have h2 : s.data.toList.drop (s.size + 1) = [] := List.drop_eq_nil_of_le (by rw [← Lib.size_eq]; omega)
    rw [h1, fieldsB_last, if_neg hS] at he
    rw [h2]
    exact ⟨[], by rw [← he]; simp [mkS_data], rfl⟩
  · have hl : k < s.data.toList.length := (List.getElem?_eq_some_iff.1 hx).1
    have hd : s.data.toList.drop k = 47 :: s.data.toList.drop (k + 1) := by
      rw [List.drop_eq_getElem_cons hl, (List.getElem?_eq_some_iff.1 hx).2]
    rw [hd, fieldsB_slash, if_neg hS] at he
    exact ⟨_, by rw [← he]; simp [mkS_data], rfl⟩
theorem SplitSt.next {s : ByteArray} {k : Nat} {N : List ByteArray} {S : ByteArray} (h : SplitSt s k N S) (hx : k = s.size ∨ s.data.toList[k]? = some 47) (hS : S.data.toList ≠ []) (h0 : nameE S.data.toList = 0) : SplitSt s (k + 1) (N ++ [S]) ⟨#[]⟩ := by
  obtain ⟨r, he, rfl⟩ := h.piece hx hS
  refine ⟨by rw [← he]; simp, fun x hx => ?_, Nat.zero_le _, by have := h.count; simp; omega, fun _ => rfl⟩
  rcases List.mem_append.1 hx with hx | hx
  · exact h.good x hx
  · simp at hx; rw [hx]; exact h0
theorem SplitSt.done {s : ByteArray} {N : List ByteArray} {S : ByteArray} (h : SplitSt s (s.size + 1) N S) : N = splitL s ∧ firstE (splitL s) = 0 := by
  have he := h.eq
  have h2 : s.data.toList.drop (s.size + 1) = [] := List.drop_eq_nil_of_le (by rw [← Lib.size_eq]; omega)
  rw [h2, fieldsB_last, if_pos (h.fin rfl), List.map_nil, List.append_nil] at he
  exact ⟨he, by rw [← he]; exact firstE_good N h.good⟩
theorem SplitSt.start (s : ByteArray) : SplitSt s 0 [] ⟨#[]⟩ := ⟨rfl, fun x hx => (by cases hx), Nat.le_refl _, Nat.le_refl _, fun h => by omega⟩

set_option maxHeartbeats 2000000 in
set_option maxRecDepth 100000 in
theorem refSplit_any (s : ByteArray) (hs : s.size ≤ 1000000) (w : World) : Calls Tryz.prog 52 #[.string s] w (SplitPost w s) := by
  by_cases hbig : 255 < s.size
  · have hE : splitE s = 36 := if_pos hbig
    have hN : splitN s = [] := by unfold splitN; rw [hE]; rfl
    have hD : splitD s = false := by unfold splitD; rw [hE]; rfl
    unfold SplitPost
    rw [hE, hN, hD]
    clear hE hN hD
    go_enter Tryz.func52, Tryz.ntmps52
    go_wp2_with fail
    go_ret3
    exact ⟨_, rfl, .nil, Below.refl _ _⟩
  · by_cases hh : s.data.toList.head? = some 47
    · have hE : splitE s = firstE (splitL s) := by unfold splitE; rw [if_neg hbig, if_pos hh]
      have hpos : 0 < s.size := by
        rw [Lib.size_eq]
        cases hl : s.data.toList with
        | nil => rw [hl] at hh; cases hh
        | cons => simp
      have h0 : s[0] = 47 := by
        have := Lib.data_getElem? s 0 hpos
        rw [← List.head?_eq_getElem?, hh] at this
        exact (Option.some.inj this).symm
      obtain ⟨n, hn⟩ : ∃ n, n = s.size - 1 := ⟨_, rfl⟩
      have hns : n < s.size := by omega
      have hw1 : IntKind.i64.wrap ((s.size : Int) - 1) = (n : Int) := by
        have h : IntKind.i64.wrap ((s.size : Int) - 1) = (s.size : Int) - 1 := IntWalk.i64_in _ (by omega)
        omega
      have hlast : (s.data.toList.getLast? == some 47) = ((s[n].toNat : Int) == 47) := by
        rw [List.getLast?_eq_getElem?, ← Lib.size_eq, show s.size - 1 = n by omega, Lib.data_getElem? s n hns, Bool.eq_iff_iff, beq_iff_eq, beq_iff_eq, Option.some_inj, ← UInt8.toNat_inj]
        show _ ↔ _; simp; omega
      have HE := Lib.hid hE; have HL := Lib.hid hlast
      have qz : ((s.size : Int) == 0) = false := by rw [beq_eq_false_iff_ne]; omega
      have q0 : ((s[0].toNat : Int) != 47) = false := by rw [h0]; rfl
      obtain ⟨i0, hi, hz0, hz1, hz2⟩ := info_parts infoStr
      clear hE hlast h0 hh
      go_enter Tryz.func52, Tryz.ntmps52
      go_wp2_with fail
      go_loopw [5, 6, 7] (fun v t i wr => ∃ k : Nat, ∃ N S, k ≤ s.size + 1 ∧ i = .int .i64 k ∧ t = .string S ∧ SplitSt s k N S ∧ wr.ownsRow w.heap.size 9 1 v N.length (N.map Value.string) ∧ Below w.heap.size w wr)
        (fun _ _ i _ => s.size + 1 - (intOf i).toNat)
      case atStart => exact ⟨0, [], ⟨#[]⟩, Nat.zero_le _, rfl, rfl, .start s, World.ownsRow_nil _ _ _ _, Below.refl _ _⟩
      case round =>
        obtain ⟨k, N, S, hk, rfl, rfl, hst, hown, hbel⟩ := hrel
        have HST := Lib.hid hst
        have hSs : S.size ≤ 1000 := by have := hst.size; omega
        have hNs : N.length ≤ 1000 := by have := hst.count; omega
        clear hst
        by_cases hle : k ≤ s.size
        · by_cases hch : k < s.size ∧ s.data.toList[k]? ≠ some 47
          · obtain ⟨hlt, hne⟩ := hch
            have hx := Lib.data_getElem? s k hlt
            have q1 : ((s[k].toNat : Int) != 47) = true := by
              rw [hx] at hne
              rw [bne_iff_ne]; intro h; apply hne
              congr 1; rw [← UInt8.toNat_inj]; show _ = 47; omega
            have HX := Lib.hid hx; have HN := Lib.hid hne
            clear hx hne
            obtain ⟨T, hT⟩ : ∃ T, T = S ++ s.extract k (k + 1) := ⟨_, rfl⟩
            have hTd : T.data.toList = S.data.toList ++ [s[k]] := by
              rw [hT, ByteArray.data_append, Array.toList_append]
              congr 1
              rw [← Lib.toList_data, Lib.extract_toList, Nat.add_sub_cancel_left, List.drop_eq_getElem_cons (show k < s.data.toList.length by rw [← Lib.size_eq]; exact hlt), List.take_succ_cons, List.take_zero]
              congr 1
            have h47 : s[k] ≠ 47 := by intro h; rw [h] at q1; exact absurd q1 (by decide)
            have hnx := Lib.hid (HST.out.char s[k] HX.out h47 hTd)
            clear hTd h47
            go_wp2_with fail
            go_roundw
            case rel => exact ⟨k + 1, N, T, by omega, by go_num, by rw [hT], hnx.out, hown, hbel⟩
            case measure => simp [intOf]; omega
          · have hx : k = s.size ∨ s.data.toList[k]? = some 47 := by
              by_cases hks : k = s.size
              · exact .inl hks
              · right; exact Decidable.byContradiction fun h => hch ⟨by omega, h⟩
            have HX := Lib.hid hx
            clear hch
            have hcase : (k < s.size ∧ ∃ h : k < s.size, ((s[k].toNat : Int) != 47) = false) ∨ k = s.size := by
              by_cases hlt : k < s.size
              · refine .inl ⟨hlt, hlt, ?_⟩
                have hx' := Lib.data_getElem? s k hlt
                rcases hx with rfl | hx
                · omega
                · rw [hx'] at hx; rw [Option.some.inj hx]; rfl
              · exact .inr (by omega)
            clear hx
            rcases hcase with ⟨hlt, _, q1⟩ | hks
            all_goals
              first | (have q2 : decide ((k : Int) < (s.size : Int)) = true := dec_true (by omega)) | (have q2 : decide ((k : Int) < (s.size : Int)) = false := dec_false (by omega))
              cases he : S.toList.isEmpty
              · have hSn : S.data.toList ≠ [] := by rw [← ByteArray.toList_eq]; intro h; rw [h] at he; cases he
                have HSN := Lib.hid hSn; clear hSn
                have hname := fun w => refName_any S (by omega) w
                by_cases hz : nameE S.data.toList = 0
                · rw [hz] at hname
                  have HZ := Lib.hid hz; clear hz
                  have hnx := Lib.hid (HST.out.next HX.out HSN.out HZ.out)
                  have hown1 := hown.alloc (Obj.cells #[.string S] 9)
                  have hsz0 := hbel.size
                  go_wp2_with fail
                  refine (hname _).mono ?_
                  rintro e w1 ⟨rfl, hw⟩
                  obtain rfl := hw.symm
                  clear hown
                  go_wp2_with (at_builtin; refine wpList_append_own _ rfl _ _ 54 rfl w.heap.size 9 i0 (.string ⟨#[]⟩) 1 16 Tryz.underlying54 hi hz0 hz1 hz2 rfl (by decide) _ _ _ rfl hown1 ⟨wr.heap.size, 0, none⟩ 1 1 [.string S] rfl rfl ?c1 ?c2 ?c3 ?c4 ?c5 ?_)
                  case c1 => exact row_cells (blk_new rfl) fun j u hu => by simpa using hu
                  case c2 => intro u hu; simp at hu; subst hu; rfl
                  case c3 => unfold maxLen; omega
                  case c4 => omega
                  case c5 => simp; omega
                  intro v' w2 hown2 hgr2 _
                  have hbel1 := below_alloc hbel (Nat.le_refl _) (Obj.cells #[.string S] 9)
                  have hbel2 := hbel1.grown hgr2 (by simp; omega) (fun k hk => (hown1.lt k hk).1)
                  clear hown1 hgr2 hbel hbel1
                  go_wp2_with fail
                  go_roundw
                  case rel =>
                    refine ⟨k + 1, N ++ [S], ⟨#[]⟩, by omega, by go_num, rfl, hnx.out, ?_, hbel2⟩
                    simpa using hown2
                  case measure => simp [intOf]; omega
                · have h1 : (nameE S.data.toList == 0) = false := by simpa using hz
                  obtain ⟨r, hr, _⟩ := HST.out.piece HX.out HSN.out
                  have hfe := firstE_bad N S r HST.out.good hz
                  rw [hr] at hfe
                  have hE1 := HE.out.trans hfe
                  have hN1 : splitN s = [] := by unfold splitN; rw [hE1, if_neg hz]
                  have hD1 : splitD s = false := by unfold splitD; rw [hE1, decide_eq_false hz]; rfl
                  have HE1 := Lib.hid hE1; have HN1 := Lib.hid hN1; have HD1 := Lib.hid hD1
                  clear hE1 hN1 hD1 hfe hr hz
                  generalize nameE S.data.toList = q at *
                  go_wp2_with fail
                  refine (hname _).mono ?_
                  rintro e w1 ⟨rfl, hw⟩
                  obtain rfl := hw.symm
                  go_wp2_with fail
                  go_ret3
                  refine ⟨.slice none 0 0, ?_, ?_, hbel⟩
                  · rw [HE1.out, HD1.out]; rfl
                  · rw [HN1.out]; exact .nil
              · have hS0 : S.data.toList = [] := by rw [← ByteArray.toList_eq]; exact List.isEmpty_iff.1 he
                have hnx := Lib.hid (HST.out.slash HX.out hS0)
                clear hS0
                go_wp2_with fail
                go_roundw
                case rel => exact ⟨k + 1, N, ⟨#[]⟩, by omega, by go_num, rfl, hnx.out, hown, hbel⟩
                case measure => simp [intOf]; omega
        · obtain rfl : k = s.size + 1 := by omega
          obtain ⟨hNL, hf0⟩ := HST.out.done
          have hE1 := HE.out.trans hf0
          have hN1 : splitN s = N := by unfold splitN; rw [hE1, if_pos rfl, hNL]
          have hD1 : splitD s = (s.data.toList.getLast? == some 47) := by unfold splitD; rw [hE1]; rfl
          rw [HL.out] at hD1
          have HE1 := Lib.hid hE1; have HN1 := Lib.hid hN1; have HD1 := Lib.hid hD1
          clear hE1 hN1 hD1 hf0 hNL
          have hst := StrsAt.own hown
          go_wp2_with fail
          have m0 : (0 : Int) ≤ (n : Int) := by omega
          have m1 : (n : Int) < (s.size : Int) := by omega
          have m2 : s.size - 1 = n := hn.symm
          have m3 : IntKind.i64.wrap (n : Int) = (n : Int) := IntWalk.i64_in _ (by omega)
          clear hn
          go_quiet (fail)
          have hbn := below_drewN (Below.refl wr.heap.size wr) nq
          have hst2 := (hst.below hbn).mono hbn.size
          have hb2 := below_drewN hbel nq
          clear hst hown hbel hbn
          generalize wr.drewN nq = w' at hst2 hb2 ⊢
          go_wp2_with fail
          go_ret3
          refine ⟨u5, ?_, ?_, hb2⟩
          · rw [HE1.out, HD1.out]; rfl
          · rw [HN1.out]; exact hst2
    · have hE : splitE s = 22 := by unfold splitE; rw [if_neg hbig, if_neg hh]
      have hN : splitN s = [] := by unfold splitN; rw [hE]; rfl
      have hD : splitD s = false := by unfold splitD; rw [hE]; rfl
      unfold SplitPost
      rw [hE, hN, hD]
      clear hE hN hD
      by_cases hpos : 0 < s.size
      · have qz : ((s.size : Int) == 0) = false := by rw [beq_eq_false_iff_ne]; omega
        have q0 : ((s[0].toNat : Int) != 47) = true := by
          rw [bne_iff_ne]; intro h; apply hh
          rw [List.head?_eq_getElem?, Lib.data_getElem? s 0 hpos]
          congr 1; rw [← UInt8.toNat_inj]; show _ = 47; omega
        clear hh
        go_enter Tryz.func52, Tryz.ntmps52
        go_wp2_with fail
        go_ret3
        exact ⟨_, rfl, .nil, Below.refl _ _⟩
      · have hz : s = ⟨#[]⟩ := by
          cases s with
          | mk d => congr 1; exact Array.eq_empty_of_size_eq_zero (by have : d.size = (ByteArray.mk d).size := rfl; omega)
        subst hz
        clear hh hpos hbig hs
        go_enter Tryz.func52, Tryz.ntmps52
        go_wp2_with fail
        go_ret3
        exact ⟨_, rfl, .nil, Below.refl _ _⟩

def ParPostR (w : World) (s : ByteArray) (e : Ending) (w' : World) : Prop :=
  ∃ v, e = .returned (.tuple #[v, .string (parL s), .int .i64 (parE s)]) ∧ StrsAt w'.heap.size w' v (parN s) ∧ Below w.heap.size w w'
set_option maxHeartbeats 2000000 in
set_option maxRecDepth 100000 in
theorem refParent_any (s : ByteArray) (hs : s.size ≤ 1000000) (w : World) : Calls Tryz.prog 56 #[.string s] w (ParPostR w s) := by
  have hsp := refSplit_any s hs w
  have hct := splitN_count s
  have hDE : ∀ c, splitE s = c → c ≠ 0 → parE s = c ∧ parN s = [] ∧ parL s = ⟨#[]⟩ := fun c hc h0 => by
    have h1 : parE s = c := by unfold parE; rw [hc, if_neg h0]
    exact ⟨h1, by unfold parN; rw [h1, if_neg h0], by unfold parL; rw [h1, if_neg h0]⟩
  have hD2 : splitE s = 0 → splitN s = [] → parE s = 22 ∧ parN s = [] ∧ parL s = ⟨#[]⟩ := fun h0 hn => by
    have h1 : parE s = 22 := by unfold parE; rw [if_pos h0, if_pos hn]
    exact ⟨h1, by unfold parN; rw [h1]; rfl, by unfold parL; rw [h1]; rfl⟩
  have hD0 : splitE s = 0 → splitN s ≠ [] → parE s = 0 ∧ parN s = (splitN s).take ((splitN s).length - 1) ∧ parL s = (splitN s).getD ((splitN s).length - 1) ⟨#[]⟩ := fun h0 hn => by
    have h1 : parE s = 0 := by unfold parE; rw [if_pos h0, if_neg hn]
    exact ⟨h1, by unfold parN; rw [h1]; rfl, by unfold parL; rw [h1]; rfl⟩
  unfold SplitPost at hsp
  have HS := Lib.hid hsp
  have HDE := Lib.hid hDE; have HD2 := Lib.hid hD2; have HD0 := Lib.hid hD0
  clear hsp hDE hD2 hD0
  generalize splitN s = L at *
  generalize splitD s = dd at *
  by_cases h0 : splitE s = 0
  · have h0' := HS.out
    rw [h0] at h0'
    have HS' := Lib.hid h0'; clear h0'
    have H0 := Lib.hid h0; clear h0
    go_enter Tryz.func56, Tryz.ntmps56
    go_wp2_with fail
    refine HS'.out.mono ?_
    rintro e w1 ⟨v, rfl, hst, hb⟩
    rcases hst with ⟨hL, a, c, rfl⟩ | ⟨g, o, c, rfl, h2, h3, h4, h5⟩
    · obtain ⟨d1, d2, d3⟩ := HD2.out H0.out hL
      have D1 := Lib.hid d1; have D2 := Lib.hid d2; have D3 := Lib.hid d3
      clear d1 d2 d3 hL
      go_wp2_with fail
      go_ret3
      exact ⟨_, by rw [D1.out, D3.out]; rfl, by rw [D2.out]; exact .nil, hb⟩
    · have hne : L ≠ [] := by intro h; subst h; simp at h3
      obtain ⟨d1, d2, d3⟩ := HD0.out H0.out hne
      obtain ⟨n, hn⟩ : ∃ n, L.length - 1 = n := ⟨_, rfl⟩
      have hnl : n < L.length := by omega
      rw [hn] at d2 d3
      obtain ⟨x, hx⟩ : ∃ x, L[n]? = some x := ⟨_, List.getElem?_eq_getElem hnl⟩
      have hxd : L.getD n ⟨#[]⟩ = x := by rw [List.getD_eq_getElem?_getD, hx]; rfl
      rw [hxd] at d3
      have hc := h5 n x hx
      have D1 := Lib.hid d1; have D2 := Lib.hid d2; have D3 := Lib.hid d3; have H5 := Lib.hid h5
      have qz : ((L.length : Int) == 0) = false := by rw [beq_eq_false_iff_ne]; omega
      have m0 : (0 : Int) ≤ (n : Int) := by omega
      have m1 : (n : Int) < (L.length : Int) := by omega
      have m3 : IntKind.i64.wrap (n : Int) = (n : Int) := IntWalk.i64_in _ (by omega)
      have m4 : (n : Int) ≤ (c : Int) := by omega
      have m5 : IntKind.i64.wrap ((L.length : Int) - 1) = (n : Int) := by
        have h : IntKind.i64.wrap ((L.length : Int) - 1) = (L.length : Int) - 1 := IntWalk.i64_in _ (by omega)
        omega
      have m6 : n ≤ c := by omega
      clear d1 d2 d3 h5 hx hxd hne
      go_wp2_with fail
      go_quiet (fail)
      have hbn := below_drewN (Below.refl w1.heap.size w1) nq
      have hst := (StrsAt.take n (Nat.le_of_lt hnl) h2 h4 H5.out).below hbn
      have hst2 := hst.mono hbn.size
      have hb2 := below_drewN hb nq
      clear hst hc hb hbn
      generalize w1.drewN nq = w' at hst2 hb2 ⊢
      go_wp2_with fail
      go_ret3
      exact ⟨_, by rw [D1.out, D3.out]; rfl, by rw [D2.out]; exact hst2, hb2⟩
  · obtain ⟨d1, d2, d3⟩ := HDE.out _ rfl h0
    have h1 : (splitE s == 0) = false := by simpa using h0
    have D1 := Lib.hid d1; have D2 := Lib.hid d2; have D3 := Lib.hid d3
    clear d1 d2 d3 HDE HD2 HD0 h0
    generalize splitE s = q at *
    go_enter Tryz.func56, Tryz.ntmps56
    go_wp2_with fail
    refine HS.out.mono ?_
    rintro e w1 ⟨v, rfl, hst, hb⟩
    go_wp2_with fail
    go_ret3
    exact ⟨_, by rw [D1.out, D3.out]; rfl, by rw [D2.out]; exact .nil, hb⟩
end Go.Proofs.YtoofcnehoffllaaGreat

namespace Go.Proofs.YtoofcnehoffllaaGreat
open Go.RowKit

theorem str_eq {x y : ByteArray} (h : x = y) : (x.toList == y.toList) = true := by rw [h]; simp
theorem str_ne {x y : ByteArray} (h : ¬ x = y) : (x.toList == y.toList) = false := by rw [beq_eq_false_iff_ne]; intro e; exact h (toList_inj e)
/-- A node of the reference's: its kind, its bytes, its entries. -/
structure RN where
  kd : Int
  dt : List Int
  en : ByteArray → Option Nat
abbrev RM := Nat → RN
/-- The entries as a row: rising, each once. -/
def EntL (f : ByteArray → Option Nat) (L : List (ByteArray × Nat)) : Prop := (L.map fun x => x.1.data.toList).Pairwise (· < ·) ∧ ∀ s j, (s, j) ∈ L ↔ f s = some j
/-- The row of entries v lies in blocks of D. -/
def EntRow (D : Nat → Prop) (w : World) (v : Value) (f : ByteArray → Option Nat) : Prop :=
  ∃ L : List (ByteArray × Nat), EntL f L ∧ L.length ≤ 1000000 ∧ ∃ a c, v = .slice a L.length c ∧ (0 < L.length → ∃ g o, a = some ⟨g, o, none⟩ ∧ D g ∧ g < w.heap.size ∧ ∀ k x, L[k]? = some x → w.cell? ⟨g, o + k * 2, none⟩ = some (.string x.1) ∧ w.cell? ⟨g, o + k * 2 + 1, none⟩ = some (.int .i64 x.2))
/-- v is the row of the reference's nodes, in blocks of D. -/
def RefIs (D : Nat → Prop) (w : World) (v : Value) (cap : Nat) (K : RM) : Prop :=
  cap ≤ 201 ∧ ∃ g c, v = .slice (some ⟨g, 0, none⟩) cap c ∧ D g ∧ g < w.heap.size ∧ ∀ i, i < cap → ∃ ev, w.cell? ⟨g, i * 3, none⟩ = some (.int .i64 (K i).kd) ∧ w.cell? ⟨g, i * 3 + 1, none⟩ = some (.string (strOfNums (K i).dt)) ∧ w.cell? ⟨g, i * 3 + 2, none⟩ = some ev ∧ EntRow D w ev (K i).en
section
variable {D D' S : Nat → Prop} {w w' : World} {v : Value} {f : ByteArray → Option Nat} {cap : Nat} {K : RM}
theorem cell_fr (hf : Fr S w w') {g o : Nat} (hg : g < w.heap.size) (hs : ¬ S g) : w'.cell? ⟨g, o, none⟩ = w.cell? ⟨g, o, none⟩ :=
  World.cell?_of_block (w := w) (a := ⟨g, o, none⟩) (hf.block g hg hs)
theorem EntRow.fr (h : EntRow D w v f) (hf : Fr S w w') (hs : ∀ b, D b → ¬ S b) : EntRow D w' v f := by
  obtain ⟨L, h1, h2, a, c, h3, h4⟩ := h
  refine ⟨L, h1, h2, a, c, h3, fun h0 => ?_⟩
  obtain ⟨g, o, h5, h6, h7, h8⟩ := h4 h0
  refine ⟨g, o, h5, h6, Nat.lt_of_lt_of_le h7 hf.size, fun k x hx => ?_⟩
  rw [cell_fr hf h7 (hs g h6), cell_fr hf h7 (hs g h6)]
  exact h8 k x hx
theorem EntRow.mono (h : EntRow D w v f) (hd : ∀ b, b < w.heap.size → D b → D' b) : EntRow D' w v f := by
  obtain ⟨L, h1, h2, a, c, h3, h4⟩ := h
  refine ⟨L, h1, h2, a, c, h3, fun h0 => ?_⟩
  obtain ⟨g, o, h5, h6, h7, h8⟩ := h4 h0
  exact ⟨g, o, h5, hd g h7 h6, h7, h8⟩
theorem RefIs.fr (h : RefIs D w v cap K) (hf : Fr S w w') (hs : ∀ b, D b → ¬ S b) : RefIs D w' v cap K := by
  obtain ⟨hc, g, c, h1, h2, h3, h4⟩ := h
  refine ⟨hc, g, c, h1, h2, Nat.lt_of_lt_of_le h3 hf.size, fun i hi => ?_⟩
  obtain ⟨ev, a1, a2, a3, a4⟩ := h4 i hi
  refine ⟨ev, ?_, ?_, ?_, a4.fr hf hs⟩
  · rw [cell_fr hf h3 (hs g h2)]; exact a1
  · rw [cell_fr hf h3 (hs g h2)]; exact a2
  · rw [cell_fr hf h3 (hs g h2)]; exact a3
theorem RefIs.mono (h : RefIs D w v cap K) (hd : ∀ b, b < w.heap.size → D b → D' b) : RefIs D' w v cap K := by
  obtain ⟨hc, g, c, h1, h2, h3, h4⟩ := h
  refine ⟨hc, g, c, h1, hd g h3 h2, h3, fun i hi => ?_⟩
  obtain ⟨ev, a1, a2, a3, a4⟩ := h4 i hi
  exact ⟨ev, a1, a2, a3, a4.mono hd⟩
theorem EntRow.below (h : EntRow D w v f) (hb : Below w.heap.size w w') : EntRow D w' v f := h.fr (S := fun _ => False) (Fr.below hb) fun _ _ => id
theorem RefIs.below (h : RefIs D w v cap K) (hb : Below w.heap.size w w') : RefIs D w' v cap K := h.fr (S := fun _ => False) (Fr.below hb) fun _ _ => id
end
/-- The tree's node, as the reference has it. -/
def refM (M : TM) : RM := fun i => match M i with
  | none => ⟨0, [], fun _ => none⟩
  | some nd => ⟨if nd.dir then 2 else 1, nd.data, fun s => nd.ents.bind fun f => f s⟩
/-- What entry answers. -/
def entI (f : ByteArray → Option Nat) (s : ByteArray) : Nat := (f s).getD 0
/-- The value of a tree as an argument. -/
def treeV (v : Value) : Value := .agg #[v]
section
variable {D : Nat → Prop} {w : World} {v : Value} {cap : Nat} {K : RM}
set_option maxHeartbeats 4000000 in
set_option maxRecDepth 100000 in
theorem entry_any (h : RefIs D w v cap K) {d : Nat} (hd : d < cap) (s : ByteArray) :
    Calls Tryz.prog 51 #[treeV v, .int .i64 d, .string s] w fun e w' => e = .returned (.int .i64 (entI (K d).en s)) ∧ Below w.heap.size w w' := by
  obtain ⟨hcap, g, c, rfl, hD, hg, hn⟩ := h
  obtain ⟨ev, c0, c1, c2, L, hL, hlen, a, ce, rfl, hr⟩ := hn d hd
  unfold treeV
  go_enter Tryz.func51, Tryz.ntmps51
  go_wp2_with fail
  have HL := Lib.hid hL; have HR := Lib.hid hr
  clear hn hL hr c0 c1
  go_loop [15] (fun i => ∃ k : Nat, k ≤ L.length ∧ i = .int .i64 k ∧ ∀ j x, L[j]? = some x → j < k → x.1 ≠ s) (fun i => L.length - (RowKit.intOf i).toNat)
  case atStart => exact ⟨0, Nat.zero_le _, rfl, fun j x _ h => by omega⟩
  case round =>
    obtain ⟨k, hk, rfl, hno⟩ := hrel
    have HNO := Lib.hid hno
    clear hno
    by_cases hlt : k < L.length
    · obtain ⟨ge, oe, rfl, hDe, hge, hcell⟩ := HR.out (by omega)
      obtain ⟨x, hx⟩ : ∃ x, L[k]? = some x := ⟨_, List.getElem?_eq_getElem hlt⟩
      obtain ⟨e0, e1⟩ := hcell k x hx
      have HX := Lib.hid hx
      clear hx hcell
      by_cases he : x.1 = s
      · have hq : (x.1.toList == s.toList) = true := str_eq he
        have hres : entI (K d).en s = x.2 := by
          have := (HL.out.2 s x.2).1 (by rw [← he]; exact List.mem_of_getElem? HX.out)
          unfold entI; rw [this]; rfl
        have HRES := Lib.hid hres
        clear hres he
        go_wp2_with fail
        go_ret
        exact ⟨by rw [HRES.out]; rfl, (Below.refl _ w).alloc (Nat.le_refl _) _⟩
      · have hq : (x.1.toList == s.toList) = false := str_ne he
        have HNE := Lib.hid he
        clear he
        go_wp2_with fail
        go_round
        case rel =>
          refine ⟨k + 1, by omega, by go_num, fun j y hj hlt => ?_⟩
          by_cases hjk : j = k
          · subst hjk
            rw [HX.out] at hj
            rw [← Option.some.inj hj]; exact HNE.out
          · exact HNO.out j y hj (by omega)
        case measure => simp only [RowKit.intOf]; omega
    · obtain rfl : k = L.length := by omega
      have hres : entI (K d).en s = 0 := by
        unfold entI
        cases hf : (K d).en s with
        | none => rfl
        | some j =>
          have hm := (HL.out.2 s j).2 hf
          obtain ⟨q, hq, hqe⟩ := List.mem_iff_getElem.1 hm
          exact absurd rfl (HNO.out q (s, j) (by rw [List.getElem?_eq_getElem hq, hqe]) hq)
      have HRES := Lib.hid hres
      clear hres
      go_wp2_with fail
      go_ret
      exact ⟨by rw [HRES.out]; rfl, (Below.refl _ w).alloc (Nat.le_refl _) _⟩
end
end Go.Proofs.YtoofcnehoffllaaGreat

namespace Go.Proofs.YtoofcnehoffllaaGreat
open Go.RowKit

theorem refM_en {M : TM} {i : Nat} {s : ByteArray} : (refM M i).en s = entN M i s := by
  unfold refM entN
  cases M i with
  | none => rfl
  | some nd => cases h : nd.ents <;> simp [h]
theorem refM_kd {M : TM} {i : Nat} : (refM M i).kd = if isDir M i then 2 else if (M i).isSome then 1 else 0 := by
  unfold refM isDir
  cases M i with
  | none => rfl
  | some nd => cases nd.dir <;> rfl
theorem refM_dir {M : TM} {i : Nat} (h : isDir M i = true) : (refM M i).kd = 2 := by rw [refM_kd, if_pos h]
theorem refM_file {M : TM} {i : Nat} (h : isDir M i = false) : ((refM M i).kd != 2) = true ∧ ((refM M i).kd == 2) = false := by
  rw [refM_kd, if_neg (by rw [h]; decide)]
  split <;> decide
theorem lead_step' {M : TM} {i : Nat} {s : ByteArray} {l : List ByteArray} : leadN M i (s :: l) = if isDir M i then (match entN M i s with | some j => leadN M j l | none => .inr 2) else .inr 20 := rfl
/-- What Lead and Look answer. -/
def ledV : Nat ⊕ Int → Value
  | .inl i => .tuple #[.int .i64 i, .int .i64 0]
  | .inr e => .tuple #[.int .i64 0, .int .i64 e]
section
variable {D : Nat → Prop} {w : World} {v : Value} {cap : Nat} {M : TM}
theorem RefIs.kd (h : RefIs D w v cap (refM M)) {i : Nat} (hi : i < cap) : ∃ g c, v = .slice (some ⟨g, 0, none⟩) cap c ∧ D g ∧ g < w.heap.size ∧ w.cell? ⟨g, i * 3, none⟩ = some (.int .i64 (refM M i).kd) := by
  obtain ⟨_, g, c, h1, h2, h3, h4⟩ := h
  obtain ⟨_, a1, _⟩ := h4 i hi
  exact ⟨g, c, h1, h2, h3, a1⟩
set_option maxHeartbeats 4000000 in
set_option maxRecDepth 100000 in
theorem refLead_any (h : RefIs D w v cap (refM M)) (hk : TOk M cap) {B : Nat} {u : Value} {l : List ByteArray} (hv : StrsAt B w u l) (hB : B ≤ w.heap.size) (hl : l.length ≤ 1000) :
    Calls Tryz.prog 64 #[treeV v, u] w fun e w' => e = .returned (ledV (leadN M 2 l)) ∧ Below w.heap.size w w' := by
  have hcap := h.1
  obtain ⟨g, c, hvv, hD, hg, hn⟩ : ∃ g c, v = .slice (some ⟨g, 0, none⟩) cap c ∧ D g ∧ g < w.heap.size ∧ ∀ i, i < cap → w.cell? ⟨g, i * 3, none⟩ = some (.int .i64 (refM M i).kd) := by
    obtain ⟨_, g, c, h1, h2, h3, h4⟩ := h
    exact ⟨g, c, h1, h2, h3, fun i hi => (h4 i hi).elim fun _ a => a.1⟩
  subst hvv
  have H := Lib.hid h; have HK := Lib.hid hk; have HN := Lib.hid hn; have HV := Lib.hid hv
  obtain ⟨ua, uc, rfl⟩ := hv.shape
  clear h hk hn hv
  unfold treeV
  go_enter Tryz.func64, Tryz.ntmps64
  have hB0 : Below w.heap.size w (w.alloc (.cells #[.slice (some ⟨g, 0, none⟩) cap c] 30)) := (Below.refl _ w).alloc (Nat.le_refl _) _
  have HB0 := Lib.hid hB0
  have HT0 := Lib.hid (show (w.alloc (.cells #[.slice (some ⟨g, 0, none⟩) cap c] 30)).heap[w.heap.size]? = some (.cells #[.slice (some ⟨g, 0, none⟩) cap c] 30 (0, 0)) from blk_new rfl)
  clear hB0
  go_wp2_with fail
  generalize w.alloc (.cells #[.slice (some ⟨g, 0, none⟩) cap c] 30) = w0 at *
  go_loopw [6, 10] (fun at_ idx wy => ∃ (k i : Nat), k ≤ l.length ∧ idx = .int .i64 k ∧ at_ = .int .i64 i ∧ (M i).isSome = true ∧ leadN M 2 l = leadN M i (l.drop k) ∧ Below w0.heap.size w0 wy) (fun _ idx _ => l.length - (RowKit.intOf idx).toNat)
  case atStart => exact ⟨0, 2, by omega, rfl, rfl, HK.out.root_there, by rw [List.drop_zero], Below.refl _ _⟩
  case round =>
    obtain ⟨k, i, hk, rfl, rfl, hi, hld, hby⟩ := hrel
    have HLD := Lib.hid hld; have HI := Lib.hid hi; have HBY := Lib.hid hby
    have hbw := Lib.hid (below_call HB0.out hby (Nat.le_refl _))
    clear hld hby
    by_cases hkl : k < l.length
    · obtain ⟨s, hs⟩ : ∃ s, l[k]? = some s := ⟨_, List.getElem?_eq_getElem hkl⟩
      have hdrop : l.drop k = s :: l.drop (k + 1) := by
        obtain ⟨hl', rfl⟩ := List.getElem?_eq_some_iff.1 hs
        rw [List.drop_eq_getElem_cons hl']
      have hstep : leadN M 2 l = if isDir M i then (match entN M i s with | some j => leadN M j (l.drop (k + 1)) | none => .inr 2) else .inr 20 := by rw [HLD.out, hdrop, lead_step']
      have HSTEP := Lib.hid hstep
      obtain ⟨nd, hm⟩ := Option.isSome_iff_exists.1 hi
      have hic := (HK.out.low i nd hm).2
      have i0 : (0 : Int) ≤ (i : Int) := by omega
      have i1 : (i : Int) < (cap : Int) := by omega
      have c0 := cell_blk_some ((HBY.out.block _ (blk_lt HT0.out)).trans HT0.out) (i := 0) rfl
      have c1 := ((World.cell?_of_block (w := w) (a := ⟨g, i * 3, none⟩) (hbw.out.block g hg)).trans (HN.out i hic))
      have HE := Lib.hid (fun w'' (hb : Below w.heap.size w w'') => entry_any (H.out.below hb) hic s)
      rcases HV.out with ⟨h0, _⟩ | ⟨ga, o, ca, he, hlc, _, hga, hcell⟩
      · rw [h0] at hkl; simp at hkl
      · injection he with e1 _ e3
        subst e1 e3
        have k0 := (World.cell?_of_block (w := w) (a := ⟨ga, o + k, none⟩) (hbw.out.block ga (by omega))).trans (hcell k s hs)
        have b0 : (0 : Int) ≤ (k : Int) := by omega
        have b1 : (k : Int) < (l.length : Int) := by omega
        have HGA := Lib.hid hga
        clear hcell hdrop hstep hs hm hi nd hga
        cases hdd : isDir M i with
        | false =>
          have HR : Hid (leadN M 2 l = .inr 20) := Lib.hid (by rw [HSTEP.out, hdd]; rfl)
          have hq := (refM_file hdd).1
          clear HSTEP hdd
          generalize (refM M i).kd = kd at *
          go_wp2_with fail
          go_ret2
          exact ⟨by rw [HR.out]; rfl, hbw.out⟩
        | true =>
          rw [refM_dir hdd] at c1
          have hen : entI (refM M i).en s = (entN M i s).getD 0 := by unfold entI; rw [refM_en]
          rw [hen] at HE
          cases hes : entN M i s with
          | none =>
            have HR : Hid (leadN M 2 l = .inr 2) := Lib.hid (by rw [HSTEP.out, hdd, hes]; rfl)
            rw [hes] at HE
            have HE' : Hid (∀ n, Calls Tryz.prog 51 #[treeV (.slice (some ⟨g, 0, none⟩) cap c), .int .i64 i, .string s] (wr.drewN n) fun e w' => e = .returned (.int .i64 0) ∧ Below wr.heap.size wr w') := Lib.hid fun n => (HE.out _ (below_drewN hbw.out n)).mono fun _ _ h => ⟨h.1, below_call (below_drewN (Below.refl _ wr) n) h.2 (Nat.le_refl _)⟩
            unfold treeV at HE'
            clear HSTEP hen hes HE hdd
            go_wp2_with fail
            go_region_law
              (go_simp; go_at_call 51
               refine (HE'.out _).mono ?_
               rintro e w3 ⟨rfl, hb3⟩
               have HB3 := Lib.hid hb3
               clear hb3
               dsimp only)
            all_goals
              go_wp2_with fail
              go_ret2
              exact ⟨by rw [HR.out]; rfl, below_call hbw.out HB3.out (Nat.le_refl _)⟩
          | some j =>
            have HR : Hid (leadN M 2 l = leadN M j (l.drop (k + 1))) := Lib.hid (by rw [HSTEP.out, hdd, hes]; rfl)
            have hj := HK.out.ent i s j hes
            obtain ⟨ndj, hmj⟩ := Option.isSome_iff_exists.1 hj
            have hj2 := (HK.out.low j ndj hmj).1
            have hjz : ((j : Int) == 0) = false := by simp; omega
            rw [hes] at HE
            have HE' : Hid (∀ n, Calls Tryz.prog 51 #[treeV (.slice (some ⟨g, 0, none⟩) cap c), .int .i64 i, .string s] (wr.drewN n) fun e w' => e = .returned (.int .i64 j) ∧ Below wr.heap.size wr w') := Lib.hid fun n => (HE.out _ (below_drewN hbw.out n)).mono fun _ _ h => ⟨h.1, below_call (below_drewN (Below.refl _ wr) n) h.2 (Nat.le_refl _)⟩
            have HJ := Lib.hid hj
            unfold treeV at HE'
            clear HSTEP hen hes HE hdd hmj hj hj2 ndj
            go_wp2_with fail
            go_region_law
              (go_simp; go_at_call 51
               refine (HE'.out _).mono ?_
               rintro e w3 ⟨rfl, hb3⟩
               have HB3 := Lib.hid hb3
               clear hb3
               dsimp only)
            all_goals
              go_wp2_with fail
              go_roundw
              case rel => exact ⟨k + 1, j, by omega, by go_num, rfl, HJ.out, HR.out, below_call HBY.out HB3.out (Nat.le_refl _)⟩
              case measure => simp only [RowKit.intOf]; omega
    · obtain rfl : k = l.length := by omega
      have HR : Hid (leadN M 2 l = .inl i) := Lib.hid (by rw [HLD.out, List.drop_length]; rfl)
      go_wp2_with fail
      go_ret2
      exact ⟨by rw [HR.out]; rfl, hbw.out⟩
theorem RefIs.kds (h : RefIs D w v cap (refM M)) : ∃ g c, v = .slice (some ⟨g, 0, none⟩) cap c ∧ D g ∧ g < w.heap.size ∧ ∀ i, i < cap → w.cell? ⟨g, i * 3, none⟩ = some (.int .i64 (refM M i).kd) := by
  obtain ⟨_, g, c, h1, h2, h3, h4⟩ := h
  exact ⟨g, c, h1, h2, h3, fun i hi => (h4 i hi).elim fun _ a => a.1⟩
set_option maxHeartbeats 4000000 in
set_option maxRecDepth 100000 in
theorem refLook_any (h : RefIs D w v cap (refM M)) (hk : TOk M cap) (s : ByteArray) (hs : s.size ≤ 1000000) :
    Calls Tryz.prog 37 #[treeV v, .string s] w fun e w' => e = .returned (ledV (lookN M s)) ∧ Below w.heap.size w w' := by
  have hcap := h.1
  obtain ⟨g, c, hvv, hD, hg, hn⟩ := h.kds
  subst hvv
  have H := Lib.hid h; have HK := Lib.hid hk; have HN := Lib.hid hn
  have HLO : Hid (lookN M s = if splitE s ≠ 0 then .inr (splitE s) else match leadN M 2 (splitN s) with
    | .inr e => .inr e
    | .inl i => if splitD s && !isDir M i then .inr 20 else .inl i) := Lib.hid rfl
  have HSP := Lib.hid (refSplit_any s hs (w.alloc (.cells #[.slice (some ⟨g, 0, none⟩) cap c] 30)))
  have HLN := Lib.hid (splitN_count s)
  have HB0 : Hid (Below w.heap.size w (w.alloc (.cells #[.slice (some ⟨g, 0, none⟩) cap c] 30))) := Lib.hid ((Below.refl _ w).alloc (Nat.le_refl _) _)
  have HT0 := Lib.hid (show (w.alloc (.cells #[.slice (some ⟨g, 0, none⟩) cap c] 30)).heap[w.heap.size]? = some (.cells #[.slice (some ⟨g, 0, none⟩) cap c] 30 (0, 0)) from blk_new rfl)
  unfold SplitPost at HSP
  clear h hk hn
  generalize splitE s = se at *
  generalize splitD s = sd at *
  generalize splitN s = sn at *
  unfold treeV
  go_enter Tryz.func37, Tryz.ntmps37
  go_wp2_with fail
  refine HSP.out.mono ?_
  rintro e w1 ⟨u, rfl, hst, hb1⟩
  have HB1 := Lib.hid (below_call HB0.out hb1 (Nat.le_refl _))
  have HT1 := Lib.hid ((hb1.block _ (blk_lt HT0.out)).trans HT0.out)
  clear hb1 HSP HB0 HT0
  by_cases hz : se = 0
  · subst hz
    have HLD := Lib.hid (refLead_any (H.out.below HB1.out) HK.out hst (Nat.le_refl _) HLN.out)
    unfold treeV at HLD
    have c0 := cell_blk_some HT1.out (i := 0) rfl
    clear hst
    go_wp2_with fail
    refine HLD.out.mono ?_
    rintro e w2 ⟨rfl, hb2⟩
    have HB2 := Lib.hid (below_call HB1.out hb2 (Nat.le_refl _))
    have c1 := cell_blk_some ((hb2.block _ (blk_lt HT1.out)).trans HT1.out) (i := 0) rfl
    have HLO' : Hid (lookN M s = match leadN M 2 sn with
      | .inr e => .inr e
      | .inl i => if sd && !isDir M i then .inr 20 else .inl i) := Lib.hid (by rw [HLO.out, if_neg (by decide)])
    clear hb2 HLD c0 HT1 HLO
    cases hl : leadN M 2 sn with
    | inr q =>
      rw [hl] at HLO'
      have hq := lead_code hl
      have hq0 : (q == 0) = false := by simp [hq]
      have HR := Lib.hid HLO'.out
      unfold ledV
      dsimp only
      clear HLO' hl hq
      go_wp2_with fail
      go_ret2
      exact ⟨by rw [HR.out]; rfl, HB2.out⟩
    | inl i =>
      rw [hl] at HLO'
      have hi := lead_there HK.out sn 2 i HK.out.root_there hl
      obtain ⟨nd, hm⟩ := Option.isSome_iff_exists.1 hi
      have hic := (HK.out.low i nd hm).2
      have i0 : (0 : Int) ≤ (i : Int) := by omega
      have i1 : (i : Int) < (cap : Int) := by omega
      have k0 := (World.cell?_of_block (w := w) (a := ⟨g, i * 3, none⟩) (HB2.out.block g hg)).trans (HN.out i hic)
      have HLO2 : Hid (lookN M s = if sd && !isDir M i then .inr 20 else .inl i) := Lib.hid HLO'.out
      unfold ledV
      dsimp only
      clear HLO' hl hm hi
      cases sd with
      | false =>
        have HR : Hid (lookN M s = .inl i) := Lib.hid HLO2.out
        clear HLO2
        go_wp2_with fail
        go_ret2
        exact ⟨by rw [HR.out]; rfl, HB2.out⟩
      | true =>
        cases hd : isDir M i with
        | true =>
          have HR : Hid (lookN M s = .inl i) := Lib.hid (by rw [HLO2.out, hd]; rfl)
          rw [refM_dir hd] at k0
          clear HLO2 hd
          go_wp2_with fail
          go_ret2
          exact ⟨by rw [HR.out]; rfl, HB2.out⟩
        | false =>
          have HR : Hid (lookN M s = .inr 20) := Lib.hid (by rw [HLO2.out, hd]; rfl)
          have hq := (refM_file hd).1
          clear HLO2 hd
          generalize (refM M i).kd = kd at *
          go_wp2_with fail
          go_ret2
          exact ⟨by rw [HR.out]; rfl, HB2.out⟩
  · have HR : Hid (lookN M s = .inr se) := Lib.hid (by rw [HLO.out, if_pos hz])
    have hz1 : (se != 0) = true := by simp [hz]
    clear HLO hz hst
    go_wp2_with fail
    go_ret2
    exact ⟨by rw [HR.out]; rfl, HB1.out⟩
end
end Go.Proofs.YtoofcnehoffllaaGreat

namespace Go.Proofs.YtoofcnehoffllaaGreat
open Go.RowKit

theorem results_tmp4 {fn : Func} {t u v x : Tmp} (h : fn.results = #[.tmp t, .tmp u, .tmp v, .tmp x]) (tmps : Array Value) (P : Program) (w : World) :
    (results fn tmps).run P w = .ok (.tuple #[tmps.getD t undef, tmps.getD u undef, tmps.getD v undef, tmps.getD x undef]) w := by
  simp [results, h]
/-- The block of a tree that a call has for its argument. -/
theorem top_new (w : World) (v : Value) : Below w.heap.size w (w.alloc (.cells #[v] 30)) ∧ (w.alloc (.cells #[v] 30)).heap[w.heap.size]? = some (.cells #[v] 30 (0, 0)) :=
  ⟨(Below.refl _ w).alloc (Nat.le_refl _) _, blk_new rfl⟩
theorem look_nz {M : TM} {s : ByteArray} {q : Int} (h : lookN M s = .inr q) : q ≠ 0 := look_code h
theorem look_is {M : TM} {cap : Nat} (hk : TOk M cap) {s : ByteArray} {i : Nat} (hq : lookN M s = .inl i) : (M i).isSome = true := by
  unfold lookN at hq
  split at hq
  · cases hq
  · cases hq2 : leadN M 2 (splitN s) with
    | inr e => rw [hq2] at hq; cases hq
    | inl j =>
      rw [hq2] at hq
      have hq : (if splitD s && !isDir M j then (.inr 20 : Nat ⊕ Int) else .inl j) = .inl i := hq
      split at hq
      · cases hq
      · injection hq with hq
        rw [← hq]
        exact lead_there hk _ 2 j hk.root_there hq2
section
variable {D : Nat → Prop} {w : World} {v : Value} {cap : Nat} {M : TM}
set_option maxHeartbeats 4000000 in
set_option maxRecDepth 100000 in
theorem refFile_any (h : RefIs D w v cap (refM M)) (hk : TOk M cap) (s : ByteArray) (hs : s.size ≤ 1000000) :
    Calls Tryz.prog 34 #[treeV v, .string s] w fun e w' => e = .returned (ledV (fileN M s)) ∧ Below w.heap.size w w' := by
  have hcap := h.1
  obtain ⟨g, c, hvv, hD, hg, hn⟩ := h.kds
  subst hvv
  obtain ⟨ht1, ht2⟩ := top_new w (.slice (some ⟨g, 0, none⟩) cap c)
  have HB0 := Lib.hid ht1; have HT0 := Lib.hid ht2
  have HL := Lib.hid (refLook_any (h.below ht1) hk s hs)
  have HK := Lib.hid hk; have HN := Lib.hid hn
  have HF : Hid (fileN M s = match lookN M s with
    | .inr e => .inr e
    | .inl i => if isDir M i then .inr 21 else .inl i) := Lib.hid rfl
  clear h hk hn ht1 ht2
  unfold treeV at HL ⊢
  go_enter Tryz.func34, Tryz.ntmps34
  cases hl : lookN M s with
  | inr q =>
    rw [hl] at HL HF
    unfold ledV at HL
    dsimp only at HL
    have HR : Hid (fileN M s = .inr q) := Lib.hid HF.out
    have hq0 : (q == 0) = false := by simp [look_nz hl]
    clear hl HF
    go_wp2_with fail
    refine HL.out.mono ?_
    rintro e w1 ⟨rfl, hb1⟩
    have HB1 := Lib.hid (below_call HB0.out hb1 (Nat.le_refl _))
    clear hb1
    go_wp2_with fail
    go_ret2
    exact ⟨by rw [HR.out]; rfl, HB1.out⟩
  | inl i =>
    rw [hl] at HL HF
    unfold ledV at HL
    dsimp only at HL
    have HF2 : Hid (fileN M s = if isDir M i then .inr 21 else .inl i) := Lib.hid HF.out
    obtain ⟨nd, hm⟩ := Option.isSome_iff_exists.1 (look_is HK.out hl)
    have hic := (HK.out.low i nd hm).2
    have i0 : (0 : Int) ≤ (i : Int) := by omega
    have i1 : (i : Int) < (cap : Int) := by omega
    clear hl hm HF
    go_wp2_with fail
    refine HL.out.mono ?_
    rintro e w1 ⟨rfl, hb1⟩
    have HB1 := Lib.hid (below_call HB0.out hb1 (Nat.le_refl _))
    have c0 := cell_blk_some ((hb1.block _ (blk_lt HT0.out)).trans HT0.out) (i := 0) rfl
    have k0 := (World.cell?_of_block (w := w) (a := ⟨g, i * 3, none⟩) (HB1.out.block g hg)).trans (HN.out i hic)
    clear hb1 HL
    cases hd : isDir M i with
    | true =>
      have HR : Hid (fileN M s = .inr 21) := Lib.hid (by rw [HF2.out, hd]; rfl)
      rw [refM_dir hd] at k0
      clear HF2 hd
      go_wp2_with fail
      go_ret2
      exact ⟨by rw [HR.out]; rfl, HB1.out⟩
    | false =>
      have HR : Hid (fileN M s = .inl i) := Lib.hid (by rw [HF2.out, hd]; rfl)
      have hq := (refM_file hd).2
      clear HF2 hd
      generalize (refM M i).kd = kd at *
      go_wp2_with fail
      go_ret2
      exact ⟨by rw [HR.out]; rfl, HB1.out⟩
/-- What place answers. -/
def PlacePost (M : TM) (s : ByteArray) (w : World) (e : Ending) (w' : World) : Prop :=
  ∃ (p : Nat) (la : ByteArray) (o : Bool), e = .returned (.tuple #[.int .i64 p, .string la, .bool o, .int .i64 (placeC M s)]) ∧ (placeC M s = 0 → leadN M 2 (parN s) = .inl p ∧ isDir M p = true ∧ la = parL s ∧ o = splitD s) ∧ Below w.heap.size w w'
set_option maxHeartbeats 4000000 in
set_option maxRecDepth 100000 in
theorem refPlace_any (h : RefIs D w v cap (refM M)) (hk : TOk M cap) (s : ByteArray) (hs : s.size ≤ 1000000) :
    Calls Tryz.prog 50 #[treeV v, .string s] w (PlacePost M s w) := by
  have hcap := h.1
  obtain ⟨g, c, hvv, hD, hg, hn⟩ := h.kds
  subst hvv
  obtain ⟨ht1, ht2⟩ := top_new w (.slice (some ⟨g, 0, none⟩) cap c)
  have HB0 := Lib.hid ht1; have HT0 := Lib.hid ht2
  have HPA := Lib.hid (refParent_any s hs (w.alloc (.cells #[.slice (some ⟨g, 0, none⟩) cap c] 30)))
  have HK := Lib.hid hk; have HN := Lib.hid hn; have H := Lib.hid h; have HS := Lib.hid hs
  have HP : Hid (placeC M s = if parE s ≠ 0 then parE s else match leadN M 2 (parN s) with
    | .inr c => c
    | .inl p => if isDir M p then 0 else 20) := Lib.hid rfl
  have HLN : Hid ((parN s).length ≤ 1000) := Lib.hid (by
    unfold parN
    split
    · rw [List.length_take]; have := splitN_count s; omega
    · simp)
  clear h hk hn ht1 ht2 hs
  unfold ParPostR at HPA
  unfold PlacePost
  unfold treeV
  generalize placeC M s = pc at *
  generalize hpe : parE s = pe at *
  generalize parN s = pn at *
  generalize hpl : parL s = pl at *
  have HPE := Lib.hid hpe
  clear hpe hpl
  go_enter Tryz.func50, Tryz.ntmps50
  go_wp2_with fail
  refine HPA.out.mono ?_
  rintro e w1 ⟨u, rfl, hst, hb1⟩
  have HB1 := Lib.hid (below_call HB0.out hb1 (Nat.le_refl _))
  have HT1 := Lib.hid ((hb1.block _ (blk_lt HT0.out)).trans HT0.out)
  have HST := Lib.hid hst
  clear hb1 HPA HB0 HT0 hst
  by_cases hz : pe = 0
  · subst hz
    have HSP := Lib.hid (refSplit_any s HS.out w1)
    unfold SplitPost at HSP
    go_wp2_with fail
    refine HSP.out.mono ?_
    rintro e w2 ⟨u2, rfl, -, hb2⟩
    have HB2 := Lib.hid (below_call HB1.out hb2 (Nat.le_refl _))
    have HT2 := Lib.hid ((hb2.block _ (blk_lt HT1.out)).trans HT1.out)
    have HLD := Lib.hid (refLead_any (H.out.below HB2.out) HK.out ((HST.out.below hb2).mono hb2.size) (Nat.le_refl _) HLN.out)
    have c0 := cell_blk_some HT2.out (i := 0) rfl
    unfold treeV at HLD
    clear hb2 HSP HT1
    generalize splitE s = se at *
    generalize hsd : splitD s = sd at *
    have HSD := Lib.hid hsd
    clear hsd
    have HP2 : Hid (pc = match leadN M 2 pn with
      | .inr c => c
      | .inl p => if isDir M p then 0 else 20) := Lib.hid (by rw [HP.out, if_neg (by decide)])
    clear HP
    go_wp2_with fail
    refine HLD.out.mono ?_
    rintro e w3 ⟨rfl, hb3⟩
    have HB3 := Lib.hid (below_call HB2.out hb3 (Nat.le_refl _))
    have c1 := cell_blk_some ((hb3.block _ (blk_lt HT2.out)).trans HT2.out) (i := 0) rfl
    clear hb3 c0 HT2 HLD
    cases hl : leadN M 2 pn with
    | inr q =>
      rw [hl] at HP2
      have hq := lead_code hl
      have hq0 : (q == 0) = false := by simp [hq]
      have HR : Hid (pc = q) := Lib.hid HP2.out
      have HQ := Lib.hid hq
      unfold ledV
      dsimp only
      clear HP2 hl hq
      go_wp2_with fail
      refine bodyPost_ret (results_tmp4 rfl _ _ _) rfl ?_
      exact ⟨0, pl, sd, by rw [HR.out]; rfl, fun h => absurd (HR.out.symm.trans h) HQ.out, HB3.out⟩
    | inl i =>
      rw [hl] at HP2
      have HR : Hid (pc = if isDir M i then 0 else 20) := Lib.hid HP2.out
      have HLL := Lib.hid hl
      have hi := lead_there HK.out pn 2 i HK.out.root_there hl
      obtain ⟨nd, hm⟩ := Option.isSome_iff_exists.1 hi
      have hic := (HK.out.low i nd hm).2
      have i0 : (0 : Int) ≤ (i : Int) := by omega
      have i1 : (i : Int) < (cap : Int) := by omega
      have k0 := (World.cell?_of_block (w := w) (a := ⟨g, i * 3, none⟩) (HB3.out.block g hg)).trans (HN.out i hic)
      unfold ledV
      dsimp only
      clear HP2 hl hm hi
      cases hd : isDir M i with
      | true =>
        rw [refM_dir hd] at k0
        rw [hd] at HR
        have HR2 : Hid (pc = 0) := Lib.hid HR.out
        clear HR
        have HD := Lib.hid hd
        clear hd
        go_wp2_with fail
        refine bodyPost_ret (results_tmp4 rfl _ _ _) rfl ?_
        exact ⟨i, pl, sd, by rw [HR2.out]; rfl, fun _ => ⟨HLL.out, HD.out, rfl, HSD.out.symm⟩, HB3.out⟩
      | false =>
        rw [hd] at HR
        have HR2 : Hid (pc = 20) := Lib.hid HR.out
        have hq := (refM_file hd).1
        clear HR hd
        generalize (refM M i).kd = kd at *
        go_wp2_with fail
        refine bodyPost_ret (results_tmp4 rfl _ _ _) rfl ?_
        exact ⟨i, pl, sd, by rw [HR2.out]; rfl, fun h => absurd (HR2.out.symm.trans h) (by decide), HB3.out⟩
  · have HR : Hid (pc = pe) := Lib.hid (by rw [HP.out, if_pos hz])
    have HZ := Lib.hid hz
    have hz1 : (pe != 0) = true := by simp [hz]
    clear HP hz
    go_wp2_with fail
    refine bodyPost_ret (results_tmp4 rfl _ _ _) rfl ?_
    exact ⟨0, ⟨#[]⟩, false, by rw [HR.out]; rfl, fun h => absurd (HR.out.symm.trans h) HZ.out, HB1.out⟩
end
end Go.Proofs.YtoofcnehoffllaaGreat

namespace Go.Proofs.YtoofcnehoffllaaGreat
open Go.RowKit

theorem elNode : ElT Tryz.prog 28 74 3 48 (.agg #[.int .i64 0, .string ⟨#[]⟩, .slice none 0 0]) := ⟨Tryz.underlying28, by kernel_rfl, by kernel_rfl, by decide⟩
section
variable {D : Nat → Prop} {w w' : World} {v : Value} {cap : Nat} {K : RM}
/-- The cells of the nodes as a row. -/
def cellsR (w : World) (g n : Nat) : List Value := (List.range n).map fun j => (w.cell? ⟨g, j, none⟩).getD undef
theorem cellsR_get {g n j : Nat} (h : j < n) : (cellsR w g n)[j]? = some ((w.cell? ⟨g, j, none⟩).getD undef) := by
  unfold cellsR
  rw [List.getElem?_map, List.getElem?_range h]; rfl
theorem cellsR_len {g n : Nat} : (cellsR w g n).length = n := by unfold cellsR; simp
theorem RefIs.src (h : RefIs D w v cap K) : ∃ g c, v = .slice (some ⟨g, 0, none⟩) cap c ∧ SrcG 3 w v cap (cellsR w g (cap * 3)) := by
  obtain ⟨hc, g, c, rfl, h2, h3, h4⟩ := h
  have key : ∀ j, j < cap * 3 → ∃ u, w.cell? ⟨g, j, none⟩ = some u ∧ u.oneCell' = true := fun j hj => by
    obtain ⟨ev, a1, a2, a3, L, -, -, a, ce, rfl, -⟩ := h4 (j / 3) (by omega)
    have hm : j = j / 3 * 3 ∨ j = j / 3 * 3 + 1 ∨ j = j / 3 * 3 + 2 := by omega
    rcases hm with h | h | h
    · rw [← h] at a1; exact ⟨_, a1, rfl⟩
    · rw [← h] at a2; exact ⟨_, a2, rfl⟩
    · rw [← h] at a3; exact ⟨_, a3, rfl⟩
  refine ⟨g, c, rfl, _, c, rfl, cellsR_len, fun u hu => ?_, fun _ => ⟨_, rfl, fun j u hj => ?_⟩⟩
  · obtain ⟨j, hj, rfl⟩ := List.mem_iff_getElem.1 hu
    rw [cellsR_len] at hj
    obtain ⟨u, hu1, hu2⟩ := key j hj
    have := cellsR_get (w := w) (g := g) hj
    rw [hu1] at this
    have h2 := (List.getElem?_eq_some_iff.1 this).2
    rw [h2]; exact hu2
  · have hjl := (List.getElem?_eq_some_iff.1 hj).1
    rw [cellsR_len] at hjl
    obtain ⟨x, hx1, -⟩ := key j hjl
    rw [cellsR_get hjl, hx1] at hj
    have hadd : (⟨g, 0, none⟩ : Addr).add j = ⟨g, j, none⟩ := by unfold Addr.add; split <;> simp_all
    rw [hadd, hx1]
    exact hj
/-- Four new blocks. -/
theorem four_new (w : World) (a b c d : Obj) : Below w.heap.size w ((((w.alloc a).alloc b).alloc c).alloc d) ∧ ((((w.alloc a).alloc b).alloc c).alloc d).heap[w.heap.size]? = some a ∧ ((((w.alloc a).alloc b).alloc c).alloc d).heap[w.heap.size + 1]? = some b ∧
    ((((w.alloc a).alloc b).alloc c).alloc d).heap[w.heap.size + 1 + 1]? = some c ∧ ((((w.alloc a).alloc b).alloc c).alloc d).heap[w.heap.size + 1 + 1 + 1]? = some d ∧ ((((w.alloc a).alloc b).alloc c).alloc d).heap.size = w.heap.size + 4 := by
  refine ⟨((((Below.refl _ w).alloc (Nat.le_refl _) _).alloc (by simp) _).alloc (by simp; omega) _).alloc (by simp; omega) _, ?_, ?_, ?_, ?_, by simp⟩
  · show ((((w.heap.push _).push _).push _).push _)[_]? = _
    rw [Array.getElem?_push, if_neg (by simp <;> omega), Array.getElem?_push, if_neg (by simp <;> omega), Array.getElem?_push, if_neg (by simp <;> omega), Array.getElem?_push, if_pos rfl]
  · show ((((w.heap.push _).push _).push _).push _)[_]? = _
    rw [Array.getElem?_push, if_neg (by simp <;> omega), Array.getElem?_push, if_neg (by simp <;> omega), Array.getElem?_push, if_pos (by simp)]
  · show ((((w.heap.push _).push _).push _).push _)[_]? = _
    rw [Array.getElem?_push, if_neg (by simp), Array.getElem?_push, if_pos (by simp)]
  · show ((((w.heap.push _).push _).push _).push _)[_]? = _
    rw [Array.getElem?_push, if_pos (by simp)]
/-- A node as a value. -/
def nodeV (n : RN) (ev : Value) : Value := .agg #[.int .i64 n.kd, .string (strOfNums n.dt), ev]
def setK (K : RM) (i : Nat) (n : RN) : RM := fun x => if x = i then n else K x
set_option maxHeartbeats 4000000 in
set_option maxRecDepth 100000 in
theorem with_any (h : RefIs D w v cap K) {i : Nat} (hi : i < cap) {n : RN} {ev : Value} (hev : EntRow D w ev n.en) :
    Calls Tryz.prog 55 #[treeV v, .int .i64 i, nodeV n ev] w fun e w' => ∃ v', e = .returned (treeV v') ∧ RefIs (fun b => D b ∨ w.heap.size ≤ b) w' v' cap (setK K i n) ∧ Below w.heap.size w w' := by
  have hcap := h.1
  obtain ⟨g, c, hvv, hsrc⟩ := h.src
  subst hvv
  have H := Lib.hid h; have HS := Lib.hid hsrc; have HE := Lib.hid hev
  obtain ⟨el, ea, ec, rfl⟩ : ∃ el ea ec, ev = .slice ea el ec := by
    obtain ⟨L, -, -, ea, ec, h, -⟩ := hev
    exact ⟨_, _, _, h⟩
  clear h hsrc hev
  unfold treeV nodeV
  go_enter Tryz.func55, Tryz.ntmps55
  have HF := Lib.hid (four_new w (.cells #[.slice (some ⟨g, 0, none⟩) cap c] 30 (0, 0)) (.cells #[.int .i64 n.kd, .string (strOfNums n.dt), .slice ea el ec] 74 (0, 0)) (.cells #[.slice none 0 0] 30 (0, 0)) (.cells #[] 74 (0, 0)))
  have HO := Lib.hid (own_block (E := 74) (k := 3) (n := 0) (c := 0) (B := w.heap.size) (xs := []) HF.out.2.2.2.2.1 rfl rfl (by omega) (by decide))
  have HS4 : Hid (SrcG 3 ((((w.alloc (.cells #[.slice (some ⟨g, 0, none⟩) cap c] 30 (0, 0))).alloc (.cells #[.int .i64 n.kd, .string (strOfNums n.dt), .slice ea el ec] 74 (0, 0))).alloc (.cells #[.slice none 0 0] 30 (0, 0))).alloc (.cells #[] 74 (0, 0))) (.slice (some ⟨g, 0, none⟩) cap c) cap (cellsR w g (cap * 3))) := Lib.hid (HS.out.fr (Fr.below (S := fun _ => False) HF.out.1) fun _ _ _ _ _ _ => id)
  go_wp2_with (refine wpList_append_g (by rfl) (.tmp 7) (.tmp 9) (by rfl) elNode (by rfl) HO.out (by rfl) HS4.out (by unfold maxLen; omega) (by omega) HF.out.1.size ?_)
  rintro v1 w1 hown hfr hblk
  rcases hown.2 with ⟨-, h0⟩ | ⟨gn, cn, cur, rfl, hgB, hgn, hcn, -, hcs, htk⟩
  · omega
  have hgx : w.heap.size + 1 + 1 < gn := by
    rcases hblk with h | h
    · have h : some gn = some (w.heap.size + 1 + 1 + 1) := h
      injection h with h; omega
    · have h : some gn = some (w.heap.size + 1 + 1 + 1 + 1) := h
      injection h with h; omega
  have b0 := (hfr.block w.heap.size (by rw [HF.out.2.2.2.2.2]; omega) (fun hx => by
    have hx : some (w.heap.size + 1 + 1 + 1) = some w.heap.size := hx
    injection hx with hx; omega)).trans HF.out.2.1
  have b1 := (hfr.block (w.heap.size + 1) (by rw [HF.out.2.2.2.2.2]; omega) (fun hx => by
    have hx : some (w.heap.size + 1 + 1 + 1) = some (w.heap.size + 1) := hx
    injection hx with hx; omega)).trans HF.out.2.2.1
  have b2 := (hfr.block (w.heap.size + 1 + 1) (by rw [HF.out.2.2.2.2.2]; omega) (fun hx => by
    have hx : some (w.heap.size + 1 + 1 + 1) = some (w.heap.size + 1 + 1) := hx
    injection hx with hx; omega)).trans HF.out.2.2.2.1
  have HB1 : Hid (Below w.heap.size w w1) := Lib.hid (HF.out.1.trans (hfr.toBelow (by rw [HF.out.2.2.2.2.2]; omega) fun x hx => by
    have hx : some (w.heap.size + 1 + 1 + 1) = some x := hx
    injection hx with hx; omega))
  have HGN := Lib.hid hgn; have HCS := Lib.hid hcs; have HTK := Lib.hid htk; have HGX := Lib.hid hgx
  have n0 : ¬ gn = w.heap.size := by omega
  have n1 : ¬ gn = w.heap.size + 1 := by omega
  have n2 : ¬ gn = w.heap.size + 1 + 1 := by omega
  have n3 : ¬ w.heap.size = gn := by omega
  have n4 : ¬ w.heap.size + 1 = gn := by omega
  have n5 : ¬ w.heap.size + 1 + 1 = gn := by omega
  have c0 := cell_blk_some b0 (i := 0) rfl
  have c1 := cell_blk_some b1 (i := 0) rfl
  have c2 := cell_blk_some b1 (i := 1) rfl
  have c3 := cell_blk_some b1 (i := 2) rfl
  have c4 := cell_blk_some b2 (i := 0) rfl
  have f0 := free_blk (i := 0) b0
  have f1 : ∀ j, w1.frozen? ⟨gn, j, none⟩ = false := fun j => free_blk hgn
  have f2 := free_blk (i := 0) b2
  have i0 : (0 : Int) ≤ (i : Int) := by omega
  have i1 : (i : Int) < (cap : Int) := by omega
  have HB2 := Lib.hid b2
  have hcu : ∀ j, j < cap * 3 → ∃ u, w1.cell? ⟨gn, j, none⟩ = some u := fun j hj => by
    have hs : cur.size = cn * 3 := hcs
    exact ⟨_, cell_blk_some hgn (Array.getElem?_eq_getElem (show j < cur.size by omega))⟩
  obtain ⟨u0, g0⟩ := hcu (i * 3) (by omega)
  obtain ⟨u1, g1⟩ := hcu (i * 3 + 1) (by omega)
  obtain ⟨u2, g2⟩ := hcu (i * 3 + 2) (by omega)
  clear hcu
  clear hown hfr hblk hgn hcs htk hgx hgB HO HS4 HF b0 b1 b2
  go_wp2_with fail
  obtain ⟨wa, hwa⟩ : ∃ wa, wa = w1.setCell ⟨w.heap.size, 0, none⟩ (.slice (some ⟨gn, 0, none⟩) cap cn) := ⟨_, rfl⟩
  rw [← hwa]
  obtain ⟨wb, hwb⟩ : ∃ wb, wb = ((wa.setCell ⟨gn, i * 3, none⟩ (.int .i64 n.kd)).setCell ⟨gn, i * 3 + 1, none⟩ (.string (strOfNums n.dt))).setCell ⟨gn, i * 3 + 2, none⟩ (.slice ea el ec) := ⟨_, rfl⟩
  rw [← hwb]
  have ga : wa.heap[gn]? = some (.cells cur 74 (0, 0)) := by
    rw [hwa]
    exact (((Fr.refl (fun b => b = w.heap.size) w1).setCell ⟨w.heap.size, 0, none⟩ rfl _).block gn (blk_lt HGN.out) n0).trans HGN.out
  have gb : wb.heap[gn]? = some (.cells (((cur.setIfInBounds (i * 3) (.int .i64 n.kd)).setIfInBounds (i * 3 + 1) (.string (strOfNums n.dt))).setIfInBounds (i * 3 + 2) (.slice ea el ec)) 74 (0, 0)) := by
    rw [hwb]
    exact blk_set (blk_set (blk_set ga _) _) _
  have fa : Fr (fun b => b = w.heap.size ∨ b = gn) w1 wb := by
    rw [hwb, hwa]
    exact ((((Fr.refl (fun b => b = w.heap.size ∨ b = gn) w1).setCell ⟨w.heap.size, 0, none⟩ (.inl rfl) _).setCell ⟨gn, i * 3, none⟩ (.inr rfl) _).setCell ⟨gn, i * 3 + 1, none⟩ (.inr rfl) _).setCell ⟨gn, i * 3 + 2, none⟩ (.inr rfl) _
  have rb := (fa.block (w.heap.size + 1 + 1) (blk_lt HB2.out) (fun h => by rcases h with h | h <;> omega)).trans HB2.out
  obtain ⟨wc, hwc⟩ : ∃ wc, wc = wb.setCell ⟨w.heap.size + 1 + 1, 0, none⟩ (.slice (some ⟨gn, 0, none⟩) cap cn) := ⟨_, rfl⟩
  rw [← hwc]
  have rc : wc.heap[w.heap.size + 1 + 1]? = some (.cells #[.slice (some ⟨gn, 0, none⟩) cap cn] 30 (0, 0)) := by
    rw [hwc]
    exact blk_set rb _
  have fc : Fr (fun b => b = w.heap.size + 1 + 1) wb wc := by
    rw [hwc]
    exact (Fr.refl (fun b => b = w.heap.size + 1 + 1) wb).setCell ⟨w.heap.size + 1 + 1, 0, none⟩ rfl _
  have gc := (fc.block gn (blk_lt gb) n2).trans gb
  have hB : Below w.heap.size w wc := HB1.out.trans ((fa.toBelow HB1.out.size fun x hx => by have := HGX.out; rcases hx with h | h <;> omega).trans (fc.toBelow (by have := fa.size; have := HB1.out.size; omega) fun x hx => by omega))
  refine bodyPost_ret (results_cell_row rfl _ _ (w.heap.size + 1 + 1) _ _ _ _ rfl rc Tryz.underlying30 rfl (by kernel_rfl)) rfl ?_
  have hcu : ∀ k, k < cap * 3 → cur[k]? = (cellsR w g (cap * 3))[k]? := fun k hk => by
    rw [← HTK.out, List.getElem?_take, if_pos hk, Array.getElem?_toList]
  have hcs := HCS.out
  refine ⟨_, rfl, ⟨hcap, gn, cn, rfl, .inr (by have := HGX.out; omega), blk_lt gc, fun j hj => ?_⟩, hB⟩
  by_cases hji : j = i
  · subst hji
    refine ⟨.slice ea el ec, ?_, ?_, ?_, ?_⟩
    · refine cell_blk_some gc ?_
      unfold setK
      rw [if_pos rfl]
      rw [Array.getElem?_setIfInBounds_ne (by omega), Array.getElem?_setIfInBounds_ne (by omega), Array.getElem?_setIfInBounds_self, if_pos (by omega)]
    · refine cell_blk_some gc ?_
      unfold setK
      rw [if_pos rfl]
      rw [Array.getElem?_setIfInBounds_ne (by omega), Array.getElem?_setIfInBounds_self, if_pos (by simp; omega)]
    · refine cell_blk_some gc ?_
      rw [Array.getElem?_setIfInBounds_self, if_pos (by simp; omega)]
    · unfold setK
      rw [if_pos rfl]
      exact (HE.out.below hB).mono fun b _ h => .inl h
  · obtain ⟨-, g', c', he, -, -, h4⟩ := H.out
    obtain ⟨he1, -, -⟩ := Value.slice.inj he
    have he2 : g = g' := by injection he1 with he1; injection he1
    subst he2
    obtain ⟨ev, a1, a2, a3, a4⟩ := h4 j hj
    have hK : setK K i n j = K j := if_neg hji
    rw [hK]
    refine ⟨ev, ?_, ?_, ?_, (a4.below hB).mono fun b _ h => .inl h⟩
    · refine cell_blk_some gc ?_
      rw [Array.getElem?_setIfInBounds_ne (by omega), Array.getElem?_setIfInBounds_ne (by omega), Array.getElem?_setIfInBounds_ne (by omega), hcu _ (by omega), cellsR_get (by omega), a1]; rfl
    · refine cell_blk_some gc ?_
      rw [Array.getElem?_setIfInBounds_ne (by omega), Array.getElem?_setIfInBounds_ne (by omega), Array.getElem?_setIfInBounds_ne (by omega), hcu _ (by omega), cellsR_get (by omega), a2]; rfl
    · refine cell_blk_some gc ?_
      rw [Array.getElem?_setIfInBounds_ne (by omega), Array.getElem?_setIfInBounds_ne (by omega), Array.getElem?_setIfInBounds_ne (by omega), hcu _ (by omega), cellsR_get (by omega), a3]; rfl
end
end Go.Proofs.YtoofcnehoffllaaGreat
