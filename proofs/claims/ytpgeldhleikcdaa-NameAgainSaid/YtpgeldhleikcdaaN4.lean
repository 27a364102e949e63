/- Walk of marlref08.Split: the same answer as name.Split's. -/
import Derived.Test.YtpgeldhleikcdaaN3
namespace Go.Proofs.Ytpgeldhleikcdaa
open Go.RowKit

theorem firstE_good : ∀ l : List ByteArray, (∀ x ∈ l, nameE x.data.toList = 0) → firstE l = 0
  | [], _ => rfl
  | x :: r, h => by rw [firstE, if_pos (h x (by simp))]; exact firstE_good r fun y hy => h y (by simp [hy])
theorem firstE_bad : ∀ (l : List ByteArray) (x : ByteArray) (r : List ByteArray), (∀ y ∈ l, nameE y.data.toList = 0) → nameE x.data.toList ≠ 0 → firstE (l ++ x :: r) = nameE x.data.toList
  | [], x, r, _, hx => by rw [List.nil_append, firstE, if_neg hx]
  | y :: l, x, r, h, hx => by rw [List.cons_append, firstE, if_pos (h y (by simp))]; exact firstE_bad l x r (fun z hz => h z (by simp [hz])) hx

theorem infoStr : (Try.prog.info? 9).map (fun i => (i.zero, i.size, i.bytes)) = some (some (.string ⟨#[]⟩), 1, 16) := by kernel_rfl

/-- How far marlref08.Split has come. -/
structure SplitSt (s : ByteArray) (k : Nat) (N : List ByteArray) (S : ByteArray) : Prop where
  eq : N ++ (fieldsB S.data.toList (s.data.toList.drop k)).map mkS = splitL s
  good : ∀ x ∈ N, nameE x.data.toList = 0
  size : S.size ≤ k
  count : N.length ≤ k
  fin : k = s.size + 1 → S.data.toList = []
theorem SplitSt.char {s : ByteArray} {k : Nat} {N : List ByteArray} {S T : ByteArray} (h : SplitSt s k N S) (x : UInt8) (hx : s.data.toList[k]? = some x) (h47 : x ≠ 47) (hT : T.data.toList = S.data.toList ++ [x]) : SplitSt s (k + 1) N T := by
  have hl : k < s.data.toList.length := (List.getElem?_eq_some_iff.1 hx).1
  have hd : s.data.toList.drop k = x :: s.data.toList.drop (k + 1) := by
    rw [List.drop_eq_getElem_cons hl, (List.getElem?_eq_some_iff.1 hx).2]
  refine ⟨?_, h.good, ?_, by have := h.count; omega, fun he => ?_⟩
  · have := h.eq
    rw [hd, fieldsB, if_neg h47] at this
    rw [hT]; exact this
  · rw [Lib.size_eq, hT, List.length_append, List.length_singleton, ← Lib.size_eq]
    have := h.size; omega
  · rw [← Lib.size_eq] at hl; omega
theorem SplitSt.slash {s : ByteArray} {k : Nat} {N : List ByteArray} {S : ByteArray} (h : SplitSt s k N S) (hx : k = s.size ∨ s.data.toList[k]? = some 47) (hS : S.data.toList = []) : SplitSt s (k + 1) N ⟨#[]⟩ := by
  refine ⟨?_, h.good, Nat.zero_le _, by have := h.count; omega, fun _ => rfl⟩
  have he := h.eq
  rcases hx with rfl | hx
  · have h1 : s.data.toList.drop s.size = [] := List.drop_eq_nil_of_le (by rw [← Lib.size_eq]; exact Nat.le_refl _)
    have h2 : s.data.toList.drop (s.size + 1) = [] := List.drop_eq_nil_of_le (by rw [← Lib.size_eq]; omega)
    rw [h1, hS] at he
    rw [h2]; exact he
  · have hl : k < s.data.toList.length := (List.getElem?_eq_some_iff.1 hx).1
    have hd : s.data.toList.drop k = 47 :: s.data.toList.drop (k + 1) := by
      rw [List.drop_eq_getElem_cons hl, (List.getElem?_eq_some_iff.1 hx).2]
    rw [hd, fieldsB_slash, if_pos hS] at he
    exact he
theorem SplitSt.piece {s : ByteArray} {k : Nat} {N : List ByteArray} {S : ByteArray} (h : SplitSt s k N S) (hx : k = s.size ∨ s.data.toList[k]? = some 47) (hS : S.data.toList ≠ []) :
    ∃ r, N ++ S :: r = splitL s ∧ r = (fieldsB [] (s.data.toList.drop (k + 1))).map mkS := by
  have he := h.eq
  rcases hx with rfl | hx
  · have h1 : s.data.toList.drop s.size = [] := List.drop_eq_nil_of_le (by rw [← Lib.size_eq]; exact Nat.le_refl _)
    have h2 : s.data.toList.drop (s.size + 1) = [] := List.drop_eq_nil_of_le (by rw [← Lib.size_eq]; omega)
    rw [h1, fieldsB_last, if_neg hS] at he
    rw [h2]
    exact ⟨[], by rw [← he]; simp [mkS_data], rfl⟩
  · have hl : k < s.data.toList.length := (List.getElem?_eq_some_iff.1 hx).1
    have hd : s.data.toList.drop k = 47 :: s.data.toList.drop (k + 1) := by
      rw [List.drop_eq_getElem_cons hl, (List.getElem?_eq_some_iff.1 hx).2]
    rw [hd, fieldsB_slash, if_neg hS] at he
    exact ⟨_, by rw [← he]; simp [mkS_data], rfl⟩
theorem SplitSt.next {s : ByteArray} {k : Nat} {N : List ByteArray} {S : ByteArray} (h : SplitSt s k N S) (hx : k = s.size ∨ s.data.toList[k]? = some 47) (hS : S.data.toList ≠ []) (h0 : nameE S.data.toList = 0) : SplitSt s (k + 1) (N ++ [S]) ⟨#[]⟩ := by
  obtain ⟨r, he, rfl⟩ := h.piece hx hS
  refine ⟨by rw [← he]; simp, fun x hx => ?_, Nat.zero_le _, by have := h.count; simp; omega, fun _ => rfl⟩
  rcases List.mem_append.1 hx with hx | hx
  · exact h.good x hx
  · simp at hx; rw [hx]; exact h0
theorem SplitSt.done {s : ByteArray} {N : List ByteArray} {S : ByteArray} (h : SplitSt s (s.size + 1) N S) : N = splitL s ∧ firstE (splitL s) = 0 := by
  have he := h.eq
  have h2 : s.data.toList.drop (s.size + 1) = [] := List.drop_eq_nil_of_le (by rw [← Lib.size_eq]; omega)
  rw [h2, fieldsB_last, if_pos (h.fin rfl), List.map_nil, List.append_nil] at he
  exact ⟨he, by rw [← he]; exact firstE_good N h.good⟩
theorem SplitSt.start (s : ByteArray) : SplitSt s 0 [] ⟨#[]⟩ := ⟨rfl, fun x hx => (by cases hx), Nat.le_refl _, Nat.le_refl _, fun h => by omega⟩

set_option maxHeartbeats 2000000 in
theorem refSplit_any (s : ByteArray) (hs : s.size ≤ 1000000) (w : World) : Calls Try.prog 15 #[.string s] w (SplitPost w s) := by
  by_cases hbig : 255 < s.size
  · have hE : splitE s = 36 := if_pos hbig
    have hN : splitN s = [] := by unfold splitN; rw [hE]; rfl
    have hD : splitD s = false := by unfold splitD; rw [hE]; rfl
    unfold SplitPost
    rw [hE, hN, hD]
    clear hE hN hD
    go_enter Try.func15, Try.ntmps15
    go_wp2_with fail
    go_ret3
    exact ⟨_, rfl, .nil, Below.refl _ _⟩
  · by_cases hh : s.data.toList.head? = some 47
    · have hE : splitE s = firstE (splitL s) := by unfold splitE; rw [if_neg hbig, if_pos hh]
      have hpos : 0 < s.size := by
        rw [Lib.size_eq]
        cases hl : s.data.toList with
        | nil => rw [hl] at hh; cases hh
        | cons => simp
      have h0 : s[0] = 47 := by
        have := Lib.data_getElem? s 0 hpos
        rw [← List.head?_eq_getElem?, hh] at this
        exact (Option.some.inj this).symm
      obtain ⟨n, hn⟩ : ∃ n, n = s.size - 1 := ⟨_, rfl⟩
      have hns : n < s.size := by omega
      have hw1 : IntKind.i64.wrap ((s.size : Int) - 1) = (n : Int) := by
        have h : IntKind.i64.wrap ((s.size : Int) - 1) = (s.size : Int) - 1 := IntWalk.i64_in _ (by omega)
        omega
      have hlast : (s.data.toList.getLast? == some 47) = ((s[n].toNat : Int) == 47) := by
        rw [List.getLast?_eq_getElem?, ← Lib.size_eq, show s.size - 1 = n by omega, Lib.data_getElem? s n hns, Bool.eq_iff_iff, beq_iff_eq, beq_iff_eq, Option.some_inj, ← UInt8.toNat_inj]
        show _ ↔ _; simp; omega
      have HE := Lib.hid hE; have HL := Lib.hid hlast
      have qz : ((s.size : Int) == 0) = false := by rw [beq_eq_false_iff_ne]; omega
      have q0 : ((s[0].toNat : Int) != 47) = false := by rw [h0]; rfl
      obtain ⟨i0, hi, hz0, hz1, hz2⟩ := info_parts infoStr
      clear hE hlast h0 hh
      go_enter Try.func15, Try.ntmps15
      go_wp2_with fail
      go_loopw [5, 6, 7] (fun v t i wr => ∃ k : Nat, ∃ N S, k ≤ s.size + 1 ∧ i = .int .i64 k ∧ t = .string S ∧ SplitSt s k N S ∧ wr.ownsRow w.heap.size 9 1 v N.length (N.map Value.string) ∧ Below w.heap.size w wr)
        (fun _ _ i _ => s.size + 1 - (intOf i).toNat)
      case atStart => exact ⟨0, [], ⟨#[]⟩, Nat.zero_le _, rfl, rfl, .start s, World.ownsRow_nil _ _ _ _, Below.refl _ _⟩
      case round =>
        obtain ⟨k, N, S, hk, rfl, rfl, hst, hown, hbel⟩ := hrel
        have HST := Lib.hid hst
        have hSs : S.size ≤ 1000 := by have := hst.size; omega
        have hNs : N.length ≤ 1000 := by have := hst.count; omega
        clear hst
        by_cases hle : k ≤ s.size
        · by_cases hch : k < s.size ∧ s.data.toList[k]? ≠ some 47
          · obtain ⟨hlt, hne⟩ := hch
            have hx := Lib.data_getElem? s k hlt
            have q1 : ((s[k].toNat : Int) != 47) = true := by
              rw [hx] at hne
              rw [bne_iff_ne]; intro h; apply hne
              congr 1; rw [← UInt8.toNat_inj]; show _ = 47; omega
            have HX := Lib.hid hx; have HN := Lib.hid hne
            clear hx hne
            obtain ⟨T, hT⟩ : ∃ T, T = S ++ s.extract k (k + 1) := ⟨_, rfl⟩
            have hTd : T.data.toList = S.data.toList ++ [s[k]] := by
              rw [hT, ByteArray.data_append, Array.toList_append]
              congr 1
              rw [← Lib.toList_data, Lib.extract_toList, Nat.add_sub_cancel_left, List.drop_eq_getElem_cons (show k < s.data.toList.length by rw [← Lib.size_eq]; exact hlt), List.take_succ_cons, List.take_zero]
              congr 1
            have h47 : s[k] ≠ 47 := by intro h; rw [h] at q1; exact absurd q1 (by decide)
            have hnx := Lib.hid (HST.out.char s[k] HX.out h47 hTd)
            clear hTd h47
            go_wp2_with fail
            go_roundw
            case rel => exact ⟨k + 1, N, T, by omega, by go_num, by rw [hT], hnx.out, hown, hbel⟩
            case measure => simp [intOf]; omega
          · have hx : k = s.size ∨ s.data.toList[k]? = some 47 := by
              by_cases hks : k = s.size
              · exact .inl hks
              · right; exact Decidable.byContradiction fun h => hch ⟨by omega, h⟩
            have HX := Lib.hid hx
            clear hch
            have hcase : (k < s.size ∧ ∃ h : k < s.size, ((s[k].toNat : Int) != 47) = false) ∨ k = s.size := by
              by_cases hlt : k < s.size
              · refine .inl ⟨hlt, hlt, ?_⟩
                have hx' := Lib.data_getElem? s k hlt
                rcases hx with rfl | hx
                · omega
                · rw [hx'] at hx; rw [Option.some.inj hx]; rfl
              · exact .inr (by omega)
            clear hx
            rcases hcase with ⟨hlt, _, q1⟩ | hks
            all_goals
              first | (have q2 : decide ((k : Int) < (s.size : Int)) = true := dec_true (by omega)) | (have q2 : decide ((k : Int) < (s.size : Int)) = false := dec_false (by omega))
              cases he : S.toList.isEmpty
              · have hSn : S.data.toList ≠ [] := by rw [← ByteArray.toList_eq]; intro h; rw [h] at he; cases he
                have HSN := Lib.hid hSn; clear hSn
                have hname := fun w => refName_any S (by omega) w
                by_cases hz : nameE S.data.toList = 0
                · rw [hz] at hname
                  have HZ := Lib.hid hz; clear hz
                  have hnx := Lib.hid (HST.out.next HX.out HSN.out HZ.out)
                  have hown1 := hown.alloc (Obj.cells #[.string S] 9)
                  have hsz0 := hbel.size
                  go_wp2_with fail
                  refine (hname _).mono ?_
                  rintro e w1 ⟨rfl, hw⟩
                  obtain rfl := hw.symm
                  clear hown
                  go_wp2_with (at_builtin; refine wpList_append_own _ rfl _ _ 22 rfl w.heap.size 9 i0 (.string ⟨#[]⟩) 1 16 Try.underlying22 hi hz0 hz1 hz2 rfl (by decide) _ _ _ rfl hown1 ⟨wr.heap.size, 0, none⟩ 1 1 [.string S] rfl rfl ?c1 ?c2 ?c3 ?c4 ?c5 ?_)
                  case c1 => exact row_cells (blk_new rfl) fun j u hu => by simpa using hu
                  case c2 => intro u hu; simp at hu; subst hu; rfl
                  case c3 => unfold maxLen; omega
                  case c4 => omega
                  case c5 => simp; omega
                  intro v' w2 hown2 hgr2 _
                  have hbel1 := below_alloc hbel (Nat.le_refl _) (Obj.cells #[.string S] 9)
                  have hbel2 := hbel1.grown hgr2 (by simp; omega) (fun k hk => (hown1.lt k hk).1)
                  clear hown1 hgr2 hbel hbel1
                  go_wp2_with fail
                  go_roundw
                  case rel =>
                    refine ⟨k + 1, N ++ [S], ⟨#[]⟩, by omega, by go_num, rfl, hnx.out, ?_, hbel2⟩
                    simpa using hown2
                  case measure => simp [intOf]; omega
                · have h1 : (nameE S.data.toList == 0) = false := by simpa using hz
                  obtain ⟨r, hr, _⟩ := HST.out.piece HX.out HSN.out
                  have hfe := firstE_bad N S r HST.out.good hz
                  rw [hr] at hfe
                  have hE1 := HE.out.trans hfe
                  have hN1 : splitN s = [] := by unfold splitN; rw [hE1, if_neg hz]
                  have hD1 : splitD s = false := by unfold splitD; rw [hE1, decide_eq_false hz]; rfl
                  have HE1 := Lib.hid hE1; have HN1 := Lib.hid hN1; have HD1 := Lib.hid hD1
                  clear hE1 hN1 hD1 hfe hr hz
                  generalize nameE S.data.toList = q at *
                  go_wp2_with fail
                  refine (hname _).mono ?_
                  rintro e w1 ⟨rfl, hw⟩
                  obtain rfl := hw.symm
                  go_wp2_with fail
                  go_ret3
                  refine ⟨.slice none 0 0, ?_, ?_, hbel⟩
                  · rw [HE1.out, HD1.out]; rfl
                  · rw [HN1.out]; exact .nil
              · have hS0 : S.data.toList = [] := by rw [← ByteArray.toList_eq]; exact List.isEmpty_iff.1 he
                have hnx := Lib.hid (HST.out.slash HX.out hS0)
                clear hS0
                go_wp2_with fail
                go_roundw
                case rel => exact ⟨k + 1, N, ⟨#[]⟩, by omega, by go_num, rfl, hnx.out, hown, hbel⟩
                case measure => simp [intOf]; omega
        · obtain rfl : k = s.size + 1 := by omega
          obtain ⟨hNL, hf0⟩ := HST.out.done
          have hE1 := HE.out.trans hf0
          have hN1 : splitN s = N := by unfold splitN; rw [hE1, if_pos rfl, hNL]
          have hD1 : splitD s = (s.data.toList.getLast? == some 47) := by unfold splitD; rw [hE1]; rfl
          rw [HL.out] at hD1
          have HE1 := Lib.hid hE1; have HN1 := Lib.hid hN1; have HD1 := Lib.hid hD1
          clear hE1 hN1 hD1 hf0 hNL
          have hst := StrsAt.own hown
          go_wp2_with fail
          have m0 : (0 : Int) ≤ (n : Int) := by omega
          have m1 : (n : Int) < (s.size : Int) := by omega
          have m2 : s.size - 1 = n := hn.symm
          have m3 : IntKind.i64.wrap (n : Int) = (n : Int) := IntWalk.i64_in _ (by omega)
          clear hn
          go_quiet (fail)
          have hbn := below_drewN (Below.refl wr.heap.size wr) nq
          have hst2 := (hst.below hbn).mono hbn.size
          have hb2 := below_drewN hbel nq
          clear hst hown hbel hbn
          generalize wr.drewN nq = w' at hst2 hb2 ⊢
          go_wp2_with fail
          go_ret3
          refine ⟨u5, ?_, ?_, hb2⟩
          · rw [HE1.out, HD1.out]; rfl
          · rw [HN1.out]; exact hst2
    · have hE : splitE s = 22 := by unfold splitE; rw [if_neg hbig, if_neg hh]
      have hN : splitN s = [] := by unfold splitN; rw [hE]; rfl
      have hD : splitD s = false := by unfold splitD; rw [hE]; rfl
      unfold SplitPost
      rw [hE, hN, hD]
      clear hE hN hD
      by_cases hpos : 0 < s.size
      · have qz : ((s.size : Int) == 0) = false := by rw [beq_eq_false_iff_ne]; omega
        have q0 : ((s[0].toNat : Int) != 47) = true := by
          rw [bne_iff_ne]; intro h; apply hh
          rw [List.head?_eq_getElem?, Lib.data_getElem? s 0 hpos]
          congr 1; rw [← UInt8.toNat_inj]; show _ = 47; omega
        clear hh
        go_enter Try.func15, Try.ntmps15
        go_wp2_with fail
        go_ret3
        exact ⟨_, rfl, .nil, Below.refl _ _⟩
      · have hz : s = ⟨#[]⟩ := by
          cases s with
          | mk d => congr 1; exact Array.eq_empty_of_size_eq_zero (by have : d.size = (ByteArray.mk d).size := rfl; omega)
        subst hz
        clear hh hpos hbig hs
        go_enter Try.func15, Try.ntmps15
        go_wp2_with fail
        go_ret3
        exact ⟨_, rfl, .nil, Below.refl _ _⟩
end Go.Proofs.Ytpgeldhleikcdaa
