/- Walk of the statement NameDeep of chapter 8: it returns true. -/
import Derived.Test.YtpgeldhleikcdaaN12
namespace Go.Proofs.Ytpgeldhleikcdaa
open Go.RowKit

set_option maxHeartbeats 4000000 in
theorem lawDeep_any (s : ByteArray) (w : World) : Calls Try.prog 8 #[.string s] w fun e w' => e = .returned (.bool true) ∧ Below w.heap.size w w' := by
  by_cases hbig : 300 < s.size
  · have q : decide ((300 : Int) < (s.size : Int)) = true := dec_true (by omega)
    go_enter Try.func8, Try.ntmps8
    go_wp2_with fail
    refine (awake_any _).mono ?_
    rintro e w1 ⟨rfl, hb1⟩
    go_wp2_with fail
    refine (awake_any _).mono ?_
    rintro e w2 ⟨rfl, hb2⟩
    have hb := below_call hb1 hb2 (Nat.le_refl _)
    go_wp2_with fail
    go_ret
    exact ⟨rfl, hb⟩
  · have q : decide ((300 : Int) < (s.size : Int)) = false := dec_false (by omega)
    have s1 := fun w => split_any s (by omega) w
    have p1 := fun w => parent_any s (by omega) w
    unfold SplitPost at s1
    unfold ParPost at p1
    have hc1 := splitN_count s
    by_cases h0 : splitE s = 0
    · have hjE := join_split_E s h0
      by_cases hL : splitN s = []
      · have hpE : parE s = 22 := by unfold parE; rw [if_pos h0, if_pos hL]
        have hpN : parN s = [] := by unfold parN; rw [hpE]; rfl
        have hpL : parL s = ⟨#[]⟩ := by unfold parL; rw [hpE]; rfl
        rw [h0, hL] at s1
        rw [hpE, hpN, hpL] at p1
        have S1 := Lib.hid s1; have P1 := Lib.hid p1
        clear s1 p1 hpE hpN hpL hL h0 hjE hc1 hbig
        generalize splitD s = dd at *
        go_enter Try.func8, Try.ntmps8
        go_wp2_with fail
        refine (awake_any _).mono ?_
        rintro e w1 ⟨rfl, hb1⟩
        go_wp2_with fail
        refine (S1.out _).mono ?_
        rintro e w2 ⟨v2, rfl, hv2, hb2⟩
        have hbel2 := below_call hb1 hb2 (Nat.le_refl _)
        obtain ⟨a2, c2, rfl⟩ := hv2.shape
        go_wp2_with fail
        refine (P1.out _).mono ?_
        rintro e w3 ⟨v3, rfl, hv3, hb3⟩
        have hbel3 := below_call hbel2 hb3 (Nat.le_refl _)
        obtain ⟨a3, c3, rfl⟩ := hv3.shape
        go_wp2_with fail
        go_ret
        exact ⟨rfl, hbel3⟩
      · obtain ⟨n, hn⟩ : ∃ n, n = (splitN s).length - 1 := ⟨_, rfl⟩
        have hpE : parE s = 0 := by unfold parE; rw [if_pos h0, if_neg hL]
        have hpN : parN s = (splitN s).take n := by unfold parN; rw [hpE, hn]; rfl
        have hpL : parL s = (splitN s).getD n ⟨#[]⟩ := by unfold parL; rw [hpE, hn]; rfl
        have hpos : 0 < (splitN s).length := List.length_pos_iff.2 hL
        have hsz : ∀ x ∈ splitN s, x.size ≤ 1000000 := by
          intro x hx
          unfold splitN at hx
          rw [if_pos h0] at hx
          have := splitL_size s x hx; omega
        rw [h0] at s1
        rw [hpE, hpN, hpL] at p1
        clear hpE hpN hpL h0
        generalize splitN s = L at *
        generalize splitD s = dd at *
        have hnl : n < L.length := by omega
        obtain ⟨x, hx⟩ : ∃ x, L[n]? = some x := ⟨_, List.getElem?_eq_getElem hnl⟩
        have hxd : L.getD n ⟨#[]⟩ = x := by rw [List.getD_eq_getElem?_getD, hx]; rfl
        rw [hxd] at p1
        have htk : L.take n ++ [x] = L := by
          have := List.take_add_one (l := L) (i := n)
          rw [hx, show n + 1 = L.length by omega, List.take_length] at this
          exact this.symm
        have S1 := Lib.hid s1; have P1 := Lib.hid p1; have TK := Lib.hid htk; have SZ := Lib.hid hsz; have JE := Lib.hid hjE
        have hlen : (L.take n).length = n := by rw [List.length_take]; omega
        obtain ⟨M, hM⟩ : ∃ M, M = L.take n := ⟨_, rfl⟩
        have hpre := isPre_take L n hnl
        rw [← hM] at hlen hpre P1 TK
        have PRE := Lib.hid hpre
        have HM := Lib.hid hM
        obtain ⟨i0, hi, hz0, hz1, hz2⟩ := info_parts infoStr
        clear s1 p1 htk hsz hjE hx hxd hpre hM hbig
        go_enter Try.func8, Try.ntmps8
        go_wp2_with fail
        refine (awake_any _).mono ?_
        rintro e w1 ⟨rfl, hb1⟩
        go_wp2_with fail
        refine (S1.out _).mono ?_
        rintro e w2 ⟨v2, rfl, hv2, hb2⟩
        have hbel2 := below_call hb1 hb2 (Nat.le_refl _)
        obtain ⟨a2, c2, rfl⟩ := hv2.shape
        go_wp2_with fail
        refine (P1.out _).mono ?_
        rintro e w3 ⟨v3, rfl, hv3, hb3⟩
        have hv2' := (hv2.below hb3).mono hb3.size
        have hbel3 := below_call hbel2 hb3 (Nat.le_refl _)
        obtain ⟨a3, c3, rfl⟩ := hv3.shape
        have qL : ((L.length : Int) == 0) = false := by rw [beq_eq_false_iff_ne]; omega
        clear hb1 hb2 hb3 hv2 hbel2
        rcases hv3.news with ⟨hM0, rfl⟩ | ⟨ad, rfl, hnews⟩
        focus
          have hn0 : n = 0 := by rw [← hlen, hM0]; rfl
          subst hn0
          have hL1 : L.length = 1 := by omega
          subst hM0
          clear hn hlen hpos hnl
          have hown1 := (own_fresh w3).alloc (Obj.cells #[.string x] 9)
          have hbelx := below_alloc (below_alloc hbel3 (Nat.le_refl _) (Obj.cells #[] 9)) (Nat.le_refl _) (Obj.cells #[.string x] 9)
          go_wp2_with (at_builtin; refine wpList_append_own _ rfl _ _ 22 rfl w3.heap.size 9 i0 (.string ⟨#[]⟩) 1 16 Try.underlying22 hi hz0 hz1 hz2 rfl (by decide) _ _ _ rfl hown1 ⟨w3.heap.size + 1, 0, none⟩ 1 1 [.string x] rfl rfl ?c1 ?c2 ?c3 ?c4 ?c5 ?_)
          case c1 => exact row_cells (blk_new (by simp)) fun j u hu => by simpa using hu
          case c2 => intro u hu; simp at hu; subst hu; rfl
          case c3 => unfold maxLen; omega
          case c4 => omega
          case c5 => simp; omega
          intro va wa hown2 hgr2 _
          have hbz := (below_alloc (below_alloc (Below.refl w3.heap.size w3) (Nat.le_refl _) (Obj.cells #[] 9)) (Nat.le_refl _) (Obj.cells #[.string x] 9)).grown hgr2 (by simp; omega) (fun k hk => (hown1.lt k hk).1)
          have HV2 := (hv2'.below hbz).mono hbz.size
          rw [hL1] at HV2
          have HV3 := (hv3.below hbz).mono hbz.size
          rw [show ([] : List ByteArray).length = 0 from rfl] at HV3
          have HVA := StrsAt.own (l := L) (by rw [← TK.out]; exact hown2)
          have hb4 := below_call hbel3 hbz (Nat.le_refl _)
          have hm1 : ([] : List ByteArray).length ≤ 1000 := by decide
          clear hown1 hown2 hgr2 hbz hbelx hv2' hv3 hbel3
        rotate_left
        focus
          have hown0 := own_fresh w3
          have hbz0 := below_alloc (Below.refl w3.heap.size w3) (Nat.le_refl _) (Obj.cells #[] 9)
          have HN := Lib.hid (hnews _ hbz0)
          have hm1 : M.length ≤ 1000 := by omega
          have qlen : ((M.length : Int) == (L.length : Int) - 1) = true := by rw [beq_iff_eq]; omega
          have HQ := Lib.hid qlen
          have HLN := Lib.hid hlen; have HNN := Lib.hid hn
          clear hnews hlen hn qlen hpos hnl
          go_wp2_with (at_builtin; refine wpList_append_own _ rfl _ _ 22 rfl w3.heap.size 9 i0 (.string ⟨#[]⟩) 1 16 Try.underlying22 hi hz0 hz1 hz2 rfl (by decide) _ _ _ rfl hown0 ad M.length c3 (M.map Value.string) rfl (by simp) ?c1 (strs_one _) ?c3 ?c4 ?c5 ?_)
          case c1 => exact HN.out
          case c3 => unfold maxLen; omega
          case c4 => omega
          case c5 => simp
          intro vb wb hownb hgrb _
          have hbzb := hbz0.grown hgrb (by simp) (fun k hk => (hown0.lt k hk).1)
          have hown1 := hownb.alloc (Obj.cells #[.string x] 9)
          have hbz1 := below_alloc hbzb (Nat.le_refl _) (Obj.cells #[.string x] 9)
          have hszb := hbzb.size
          clear hown0 hbz0 HN hownb hgrb
          go_wp2_with (at_builtin; refine wpList_append_own _ rfl _ _ 22 rfl w3.heap.size 9 i0 (.string ⟨#[]⟩) 1 16 Try.underlying22 hi hz0 hz1 hz2 rfl (by decide) _ _ _ rfl hown1 ⟨wb.heap.size, 0, none⟩ 1 1 [.string x] rfl rfl ?c1 ?c2 ?c3 ?c4 ?c5 ?_)
          case c1 => exact row_cells (blk_new (by simp)) fun j u hu => by simpa using hu
          case c2 => intro u hu; simp at hu; subst hu; rfl
          case c3 => unfold maxLen; omega
          case c4 => omega
          case c5 => simp; omega
          intro va wa hown2 hgr2 _
          have hbz := hbz1.grown hgr2 hbz1.size (fun k hk => (hown1.lt k hk).1)
          have HV2 := (hv2'.below hbz).mono hbz.size
          have HV3 := (hv3.below hbz).mono hbz.size
          have HVA := StrsAt.own (l := L) (w := wa) (B := w3.heap.size) (v := va) (by
            rw [← TK.out, List.map_append, List.length_append]; simpa using hown2)
          have hb4 := below_call hbel3 hbz (Nat.le_refl _)
          have qlen := HQ.out
          clear hown1 hown2 hgr2 hbz hbz1 hbzb hszb hv2' hv3 hbel3
        all_goals
          have HA := Lib.hid HVA; have H2 := Lib.hid HV2; have H3 := Lib.hid HV3
          clear HVA HV2 HV3
          have qs : ((joinP L).toList == (joinP L).toList) = true := by simp
          have j1 := fun (w' : World) (hb : Below wa.heap.size wa w') => join_any (HA.out.below hb) hb.size SZ.out hc1
          have j2 := fun (w' : World) (hb : Below wa.heap.size wa w') => join_any (H2.out.below hb) hb.size SZ.out hc1
          have w1' := fun (w' : World) (hb : Below wa.heap.size wa w') => within_any (H3.out.below hb) (H2.out.below hb) hm1 hc1
          rw [JE.out] at j1 j2
          rw [PRE.out] at w1'
          have J1 := Lib.hid j1; have J2 := Lib.hid j2; have W1 := Lib.hid w1'
          clear j1 j2 w1'
          generalize joinP L = pj at *
          go_wp2_with fail
          refine (J1.out _ (Below.refl _ _)).mono ?_
          rintro e w5 ⟨rfl, hb5⟩
          go_wp2_with fail
          refine (J2.out _ hb5).mono ?_
          rintro e w6 ⟨rfl, hb6⟩
          have hbz6 := below_call hb5 hb6 (Nat.le_refl _)
          clear hb6
          go_wp2_with fail
          refine (W1.out _ hbz6).mono ?_
          rintro e w7 ⟨rfl, hb7⟩
          have hbz7 := below_call hb4 (below_call hbz6 hb7 (Nat.le_refl _)) (Nat.le_refl _)
          clear hb7 hbz6 hb5 hb4
          go_wp2_with fail
          go_ret
          exact ⟨rfl, hbz7⟩
    · have hpE : parE s = splitE s := by unfold parE; rw [if_neg h0]
      have hpN : parN s = [] := by unfold parN; rw [hpE, if_neg h0]
      have hpL : parL s = ⟨#[]⟩ := by unfold parL; rw [hpE, if_neg h0]
      have hN : splitN s = [] := by unfold splitN; rw [if_neg h0]
      rw [hN] at s1
      rw [hpE, hpN, hpL] at p1
      have S1 := Lib.hid s1; have P1 := Lib.hid p1
      have h1 : (splitE s == 0) = false := by simpa using h0
      have h3 : (splitE s != 0) = true := by simpa using h0
      have h2 : (splitE s == splitE s) = true := by simp
      clear s1 p1 hpE hpN hpL hN hc1 hbig h0
      generalize splitD s = dd at *
      generalize splitE s = ec at *
      go_enter Try.func8, Try.ntmps8
      go_wp2_with fail
      refine (awake_any _).mono ?_
      rintro e w1 ⟨rfl, hb1⟩
      go_wp2_with fail
      refine (S1.out _).mono ?_
      rintro e w2 ⟨v2, rfl, hv2, hb2⟩
      have hbel2 := below_call hb1 hb2 (Nat.le_refl _)
      obtain ⟨a2, c2, rfl⟩ := hv2.shape
      go_wp2_with fail
      refine (P1.out _).mono ?_
      rintro e w3 ⟨v3, rfl, hv3, hb3⟩
      have hbel3 := below_call hbel2 hb3 (Nat.le_refl _)
      obtain ⟨a3, c3, rfl⟩ := hv3.shape
      go_wp2_with fail
      go_ret
      exact ⟨rfl, hbel3⟩
end Go.Proofs.Ytpgeldhleikcdaa
