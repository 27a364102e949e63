/- Walk of the statement NameJoins of chapter 8: it returns true. -/
import Derived.Test.YtpgeldhleikcdaaN12
namespace Go.Proofs.Ytpgeldhleikcdaa
open Go.RowKit

theorem fieldsB_slashed : ∀ (l : List ByteArray) (cur : List UInt8), (∀ x ∈ l, x.data.toList ≠ [] ∧ ∀ y ∈ x.data.toList, y ≠ 47) →
    fieldsB cur (slashed l) = if cur = [] then l.map (·.data.toList) else cur :: l.map (·.data.toList)
  | [], cur, _ => by rw [show slashed [] = [] from rfl, fieldsB_last]; rfl
  | x :: r, cur, h => by
    obtain ⟨h1, h2⟩ := h x (by simp)
    have hs : slashed (x :: r) = 47 :: (x.data.toList ++ slashed r) := by simp [slashed]
    have ih := fieldsB_slashed r x.data.toList fun y hy => h y (by simp [hy])
    rw [if_neg h1] at ih
    rw [hs, fieldsB_slash, fieldsB_run _ _ _ h2, List.nil_append, ih]
    rfl
theorem names_good {l : List ByteArray} (h : firstE l = 0) : ∀ x ∈ l, x.data.toList ≠ [] ∧ ∀ y ∈ x.data.toList, y ≠ 47 := fun x hx => (nameE_len (firstE_name h x hx)).2
theorem map_mkS_data (l : List ByteArray) : (l.map (·.data.toList)).map mkS = l := by
  rw [List.map_map]; conv => rhs; rw [← List.map_id l]
  exact List.map_congr_left fun x _ => mkS_data x
theorem fieldsB_joinB {l : List ByteArray} (h : firstE l = 0) : fieldsB [] (joinB l) = l.map (·.data.toList) := by
  by_cases he : l = []
  · subst he; rfl
  · rw [← slashed_joinB l he, fieldsB_slashed l [] (names_good h), if_pos rfl]
theorem joinE_first {l : List ByteArray} (h : joinE l = 0) : firstE l = 0 ∧ (joinB l).length ≤ 255 := by
  unfold joinE at h
  by_cases h0 : firstE l = 0
  · rw [if_pos h0] at h
    by_cases hb : 255 < (joinB l).length
    · rw [if_pos hb] at h; cases h
    · exact ⟨h0, by omega⟩
  · rw [if_neg h0] at h; exact absurd h h0
theorem splitL_join {l : List ByteArray} (h : joinE l = 0) : splitL (joinP l) = l := by
  obtain ⟨h0, _⟩ := joinE_first h
  unfold splitL joinP
  rw [if_pos h, data_mkS, fieldsB_joinB h0, map_mkS_data]
theorem splitE_join {l : List ByteArray} (h : joinE l = 0) : splitE (joinP l) = 0 := by
  obtain ⟨h0, h1⟩ := joinE_first h
  have hp : joinP l = mkS (joinB l) := by unfold joinP; rw [if_pos h]
  unfold splitE
  rw [splitL_join h, h0, hp, Lib.size_eq, data_mkS, if_neg (by omega)]
  rfl
theorem splitN_join {l : List ByteArray} (h : joinE l = 0) : splitN (joinP l) = l := by
  unfold splitN; rw [splitE_join h, if_pos rfl, splitL_join h]
theorem splitD_join {l : List ByteArray} (h : joinE l = 0) : splitD (joinP l) = ((l.length : Int) == 0) := by
  obtain ⟨h0, _⟩ := joinE_first h
  have hp : joinP l = mkS (joinB l) := by unfold joinP; rw [if_pos h]
  unfold splitD
  rw [splitE_join h, hp, data_mkS, dec_true rfl, Bool.true_and]
  by_cases he : l = []
  · subst he; rfl
  · have hl : ((l.length : Int) == 0) = false := by
      have := List.length_pos_iff.2 he
      rw [beq_eq_false_iff_ne]; omega
    rw [hl, ← slashed_joinB l he]
    obtain ⟨r, x, rfl⟩ : ∃ r x, l = r ++ [x] := ⟨l.dropLast, l.getLast he, (List.dropLast_concat_getLast he).symm⟩
    obtain ⟨g1, g2⟩ := names_good h0 x (by simp)
    rw [beq_eq_false_iff_ne]
    intro hg
    have hs : slashed (r ++ [x]) = slashed r ++ [47] ++ x.data.toList := by simp [slashed]
    rw [hs, List.getLast?_append] at hg
    obtain ⟨t, y, hty⟩ : ∃ t y, x.data.toList = t ++ [y] := ⟨x.data.toList.dropLast, x.data.toList.getLast g1, (List.dropLast_concat_getLast g1).symm⟩
    rw [hty] at hg
    simp at hg
    exact g2 y (by rw [hty]; simp) hg
theorem joinP_size (l : List ByteArray) : (joinP l).size ≤ 255 := by
  unfold joinP
  split
  · rename_i h; rw [Lib.size_eq, data_mkS]; exact (joinE_first h).2
  · exact Nat.zero_le _

set_option maxHeartbeats 4000000 in
theorem lawJoins_any {W : World} {v : Value} {l : List ByteArray} (hv : StrsAt W.heap.size W v l) : Calls Try.prog 3 #[v] W fun e w' => e = .returned (.bool true) ∧ Below W.heap.size W w' := by
  obtain ⟨a, c, rfl⟩ := hv.shape
  have HV := Lib.hid hv
  clear hv
  by_cases hbig : 200 < l.length
  · have q1 : decide ((200 : Int) < (l.length : Int)) = true := dec_true (by omega)
    go_enter Try.func3, Try.ntmps3
    go_wp2_with fail
    refine (awake_any _).mono ?_
    rintro e w1 ⟨rfl, hb1⟩
    go_wp2_with fail
    refine (awake_any _).mono ?_
    rintro e w2 ⟨rfl, hb2⟩
    have hb := below_call hb1 hb2 (Nat.le_refl _)
    go_wp2_with fail
    go_ret
    exact ⟨rfl, hb⟩
  · have hl : l.length ≤ 200 := by omega
    have q1 : decide ((200 : Int) < (l.length : Int)) = false := dec_false (by omega)
    obtain ⟨i0, hi, hz0, hz1, hz2⟩ := info_parts infoStr
    clear hbig
    go_enter Try.func3, Try.ntmps3
    go_wp2_with fail
    refine (awake_any _).mono ?_
    rintro e w1 ⟨rfl, hb1⟩
    go_wp2_with fail
    go_loop [23] (fun i => ∃ k : Nat, k ≤ l.length ∧ i = .int .i64 k ∧ ∀ x ∈ l.take k, x.size ≤ 300) (fun i => l.length - (intOf i).toNat)
    case atStart => exact ⟨0, Nat.zero_le _, rfl, fun x hx => by simp at hx⟩
    case round =>
      obtain ⟨k, hk, rfl, hsz⟩ := hrel
      have HSZ := Lib.hid hsz; clear hsz
      by_cases hlt : k < l.length
      · obtain ⟨x, hx⟩ : ∃ x, l[k]? = some x := ⟨_, List.getElem?_eq_getElem hlt⟩
        have hv := HV.out
        obtain ⟨g, o, rfl, _, _, hg, hcl⟩ := hv.cells (by omega)
        have hc := (cell_below hb1 hg (o := o + k)).trans (hcl k x hx)
        have HX := Lib.hid hx
        clear hv hcl hx
        by_cases hbx : 300 < x.size
        · have q3 : decide ((300 : Int) < (x.size : Int)) = true := dec_true (by omega)
          go_wp2_with fail
          go_ret
          exact ⟨rfl, hb1⟩
        · have q3 : decide ((300 : Int) < (x.size : Int)) = false := dec_false (by omega)
          go_wp2_with fail
          go_round
          case rel =>
            refine ⟨k + 1, by omega, by go_num, fun y hy => ?_⟩
            rw [List.take_add_one, HX.out] at hy
            rcases List.mem_append.1 hy with hy | hy
            · exact HSZ.out y hy
            · simp at hy; subst hy; omega
          case measure => simp [intOf]; omega
      · obtain rfl : k = l.length := by omega
        have hsz := HSZ.out
        rw [List.take_length] at hsz
        have hsz' : ∀ x ∈ l, x.size ≤ 1000000 := fun x hx => by have := hsz x hx; omega
        have SZ := Lib.hid hsz'
        clear hsz hsz' HSZ hk
        have qe : (joinE l != joinE l) = false := by simp
        have qs : ((joinP l).toList == (joinP l).toList) = true := by simp
        rcases HV.out.news with ⟨hl0, rfl⟩ | ⟨ad, rfl, hnews⟩
        focus
          have hl1 : l.length = 0 := by rw [hl0]; rfl
          have hbx : Below W.heap.size W (w1.alloc (.cells #[] 9)) := below_alloc hb1 (Nat.le_refl _) _
          have hin : StrsAt (w1.alloc (.cells #[] 9)).heap.size (w1.alloc (.cells #[] 9)) (.slice (some ⟨w1.heap.size, 0, none⟩) 0 0) l := .inl ⟨hl0, _, _, rfl⟩
          have HIN := Lib.hid hin
          have hv2 := HV.out
          rw [hl1] at hv2
          have HV2 := Lib.hid hv2
          have hm1 : True := trivial
          have hb0 : ∃ b, ((0 : Int) == 0) = b ∧ ((l.length : Int) == 0) = b := ⟨true, rfl, by rw [hl1]; rfl⟩
          clear hv2 hin hb1 hl0
          go_wp2_with fail
          generalize Value.slice (some ⟨w1.heap.size, 0, none⟩) 0 0 = vin at HIN ⊢
          generalize w1.alloc (.cells #[] 9) = wx at HIN hbx ⊢
          clear hl1
        rotate_left
        focus
          have hown0 := own_fresh w1
          have hbx0 := below_alloc hb1 (Nat.le_refl _) (Obj.cells #[] 9)
          have HN := Lib.hid (hnews _ hbx0)
          clear hnews
          go_wp2_with (at_builtin; refine wpList_append_own _ rfl _ _ 22 rfl w1.heap.size 9 i0 (.string ⟨#[]⟩) 1 16 Try.underlying22 hi hz0 hz1 hz2 rfl (by decide) _ _ _ rfl hown0 ad l.length c (l.map Value.string) rfl (by simp) ?c1 (strs_one _) ?c3 ?c4 ?c5 ?_)
          case c1 => first | exact HN.out | exact fun j a ha => HN.out j _ (by rw [List.getElem?_map, ha]; rfl)
          case c3 => unfold maxLen; omega
          case c4 => omega
          intro vin wx hown2 hgr2 _
          have hbx := hbx0.grown hgr2 hbx0.size (fun k hk => Nat.le_trans hb1.size (hown0.lt k hk).1)
          have HIN := Lib.hid (StrsAt.own (l := l) (w := wx) (by simpa using hown2))
          have HV2 := Lib.hid HV.out
          have hb0 : ∃ b, ((l.length : Int) == 0) = b ∧ ((l.length : Int) == 0) = b := ⟨_, rfl, rfl⟩
          clear hown0 hown2 hgr2 hbx0 HN hb1
          go_wp2_with fail
        all_goals
          obtain ⟨b, hb0, hbl⟩ := hb0
          first | (obtain rfl : b = true := hb0.symm.trans rfl) | skip
          first | (have qb : (b == b) = true := by simp) | skip
          refine (join_any HIN.out (Nat.le_refl _) SZ.out (by omega)).mono ?_
          rintro e w5 ⟨rfl, hb5⟩
          have hv5 := HV2.out.below (below_call hbx hb5 (Nat.le_refl _))
          have hin5 := (HIN.out.below hb5).mono hb5.size
          have hbel5 := below_call hbx hb5 (Nat.le_refl _)
          have R := Lib.hid (refJoin_any hv5 SZ.out (by omega))
          have T := Lib.hid (texts_same hin5 (hv5.mono hbel5.size) (Nat.le_refl _) (by omega))
          clear hv5 hin5 hb5 hbx
          by_cases h0 : joinE l = 0
          · have hsp := fun w => split_any (joinP l) (by have := joinP_size l; omega) w
            unfold SplitPost at hsp
            rw [splitE_join h0, splitN_join h0, splitD_join h0, hbl] at hsp
            have SP := Lib.hid hsp
            have R' := R.out
            rw [h0] at R'
            have R2 := Lib.hid R'
            rw [h0]
            clear hsp R R' h0 hbl qe
            generalize joinP l = pj at *
            go_wp2_with fail
            refine R2.out.mono ?_
            rintro e w6 ⟨rfl, hw⟩
            obtain rfl := hw.symm
            go_wp2_with fail
            refine T.out.mono ?_
            rintro e w7 ⟨rfl, hb7⟩
            have hbel7 := below_call hbel5 hb7 (Nat.le_refl _)
            clear hb7
            go_wp2_with fail
            refine (SP.out _).mono ?_
            rintro e w8 ⟨v8, rfl, hv8, hb8⟩
            have hbel8 := below_call hbel7 hb8 (Nat.le_refl _)
            have hv9 := (HV2.out.below hbel8).mono hbel8.size
            have T2 := Lib.hid (texts_same hv8 hv9 (Nat.le_refl _) (by omega))
            clear hb8 hv8 hv9
            go_wp2_with fail
            refine T2.out.mono ?_
            rintro e w9 ⟨rfl, hb9⟩
            have hbel9 := below_call hbel8 hb9 (Nat.le_refl _)
            clear hb9
            go_wp2_with fail
            go_ret
            exact ⟨rfl, hbel9⟩
          · have h1 : (joinE l != 0) = true := by simpa using h0
            have h2 : (joinE l == 0) = false := by simpa using h0
            clear h0 hbl
            generalize joinP l = pj at *
            generalize joinE l = je at *
            go_wp2_with fail
            refine R.out.mono ?_
            rintro e w6 ⟨rfl, hw⟩
            obtain rfl := hw.symm
            go_wp2_with fail
            refine T.out.mono ?_
            rintro e w7 ⟨rfl, hb7⟩
            have hbel7 := below_call hbel5 hb7 (Nat.le_refl _)
            clear hb7
            go_wp2_with fail
            go_ret
            exact ⟨rfl, hbel7⟩
end Go.Proofs.Ytpgeldhleikcdaa
