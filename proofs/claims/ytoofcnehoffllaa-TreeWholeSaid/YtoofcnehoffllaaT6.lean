/- Walk of tree's place. -/
import Derived.Test.YtoofcnehoffllaaT5
import Derived.Test.YtoofcnehoffllaaGRows
namespace Go.Proofs.Ytoofcnehoffllaa
open Go.RowKit

theorem elStr : ElT Try.prog 34 9 1 16 (.string ⟨#[]⟩) := ⟨Try.underlying34, by kernel_rfl, by kernel_rfl, by decide⟩
theorem srcS (w : World) (s : ByteArray) : SrcG 1 (w.alloc (.cells #[.string s] 9)) (.slice (some ⟨w.heap.size, 0, none⟩) 1 1) 1 [.string s] :=
  SrcG.block (blk_new rfl) rfl (fun u hu => by rw [List.mem_singleton] at hu; rw [hu]; rfl)
/-- The place of a path: parent, name, whether of a directory, length. -/
def placeA (p : Value) (last : ByteArray) (of_ : Bool) (long : Int) : Value := .agg #[p, .string last, .bool of_, .int .i64 long]
def placeV (P : Nat → Option Nat) (M : TM) (s : ByteArray) : Value :=
  if parE s ≠ 0 then .tuple #[placeA (.pointer none) ⟨#[]⟩ false 0, .int .i64 (parE s)] else match leadN M 2 (parN s) with
    | .inr c => .tuple #[placeA (.pointer none) (parL s) (splitD s) (longN (parN s ++ [parL s])), .int .i64 c]
    | .inl p => .tuple #[placeA (nptr (P p)) (parL s) (splitD s) (longN (parN s ++ [parL s])), .int .i64 (if isDir M p then 0 else 20)]
theorem parN_count (s : ByteArray) : (parN s).length ≤ 999 := by
  have := splitN_count s
  unfold parN
  split
  · rw [List.length_take]; omega
  · simp
theorem splitN_size (s x : ByteArray) (h : x ∈ splitN s) : x.size ≤ s.size := by
  unfold splitN at h
  split at h
  · exact splitL_size s x h
  · cases h
theorem parN_size (s x : ByteArray) (h : x ∈ parN s) : x.size ≤ s.size := by
  unfold parN at h
  split at h
  · exact splitN_size s x (List.mem_of_mem_take h)
  · cases h
theorem parL_size (s : ByteArray) : (parL s).size ≤ s.size := by
  unfold parL
  split
  · rw [List.getD_eq_getElem?_getD]
    cases hq : (splitN s)[(splitN s).length - 1]? with
    | none => exact Nat.zero_le _
    | some x => exact splitN_size s x (List.mem_of_getElem? hq)
  · exact Nat.zero_le _
section
variable {w : World} {tb nb cap : Nat} {P E : Nat → Option Nat} {V : Nat → Value} {M : TM}
set_option maxHeartbeats 4000000 in
set_option maxRecDepth 100000 in
theorem place_any (h : TIn w tb nb cap P E V M) (s : ByteArray) (hs : s.size ≤ 1000000) :
    Calls Try.prog 41 #[.pointer (some ⟨tb, 0, none⟩), .string s] w fun e w' => e = .returned (placeV P M s) ∧ Below w.heap.size w w' := by
  have HT := Lib.hid h; have HSZ := Lib.hid hs
  have hb0 : Below w.heap.size w (w.alloc (.cells #[.pointer none, .string ⟨#[]⟩, .bool false, .int .i64 0] 81)) := (Below.refl _ w).alloc (Nat.le_refl _) _
  have HB0 := Lib.hid hb0
  have OB : Hid ((w.alloc (.cells #[.pointer none, .string ⟨#[]⟩, .bool false, .int .i64 0] 81)).heap[w.heap.size]? = some (.cells #[.pointer none, .string ⟨#[]⟩, .bool false, .int .i64 0] 81 (0, 0))) := Lib.hid (blk_new rfl)
  have HP := Lib.hid (parent_any s hs (w.alloc (.cells #[.pointer none, .string ⟨#[]⟩, .bool false, .int .i64 0] 81)))
  have HV : Hid (placeV P M s = if parE s ≠ 0 then .tuple #[placeA (.pointer none) ⟨#[]⟩ false 0, .int .i64 (parE s)] else match leadN M 2 (parN s) with
    | .inr c => .tuple #[placeA (.pointer none) (parL s) (splitD s) (longN (parN s ++ [parL s])), .int .i64 c]
    | .inl p => .tuple #[placeA (nptr (P p)) (parL s) (splitD s) (longN (parN s ++ [parL s])), .int .i64 (if isDir M p then 0 else 20)]) := Lib.hid rfl
  clear h hb0
  by_cases hE : parE s = 0
  · have HE := Lib.hid hE
    unfold ParPost at HP
    rw [hE] at HP
    clear hE
    go_enter Try.func41, Try.ntmps41
    go_wp2_with fail
    generalize w.alloc (.cells #[.pointer none, .string ⟨#[]⟩, .bool false, .int .i64 0] 81) = w0 at *
    refine HP.out.mono ?_
    rintro e w1 ⟨v, rfl, hst, hb1, hown⟩
    obtain ⟨va, vc, rfl⟩ := hst.shape
    have HB1 := Lib.hid (below_call HB0.out hb1 (Nat.le_refl _))
    have OB1 := Lib.hid ((hb1.block _ (blk_lt OB.out)).trans OB.out)
    have HS := Lib.hid (split_any s hs w1)
    have HST := Lib.hid hst; have HO := Lib.hid hown; have HQ1 := Lib.hid hb1; have OB0 := Lib.hid OB.out
    clear hst hb1 hown HP OB
    unfold SplitPost at HS
    go_wp2_with fail
    refine HS.out.mono ?_
    rintro e w2 ⟨v2, rfl, _, hb2⟩
    have HB2 := Lib.hid (below_call HB1.out hb2 (Nat.le_refl _))
    have OB2 := Lib.hid ((hb2.block _ (blk_lt OB1.out)).trans OB1.out)
    have HST2 := Lib.hid (HST.out.below hb2)
    have HO2 := Lib.hid (own_frame HO.out (S := fun _ => False) (Fr.below hb2) fun _ _ => id)
    have HL := Lib.hid (lead_any (HT.out.below HB2.out) HST2.out (by have := parN_count s; omega))
    have HQ2 := Lib.hid hb2
    clear hb2 HS HST HO OB1
    go_wp2_with fail
    refine HL.out.mono ?_
    rintro e w3 ⟨rfl, rfl⟩
    have hb03 : Below w0.heap.size w0 w3 := below_call (below_call (Below.refl _ w0) HQ1.out (Nat.le_refl _)) HQ2.out (Nat.le_refl _)
    have HBZ := Lib.hid hb03
    have HB3 := Lib.hid hb03.size
    cases hq : leadN M 2 (parN s) with
    | inr c =>
      have hc := lead_code hq
      have c1 : (c == 0) = false := by simp [hc]
      have hr : placeV P M s = .tuple #[placeA (.pointer none) (parL s) (splitD s) (longN (parN s ++ [parL s])), .int .i64 c] := by rw [HV.out, if_neg (by rw [HE.out]; simp), hq]
      have HR := Lib.hid hr
      clear hr hc HV hb03 hq
      unfold leadV
      dsimp only
      have OW := Lib.hid (own_frame HO2.out (S := fun _ => False) ((Fr.refl _ w3).alloc (.cells #[.string (parL s)] 9)) fun _ _ => id)
      have hzz : w.heap.size ≤ (w3.alloc (.cells #[.string (parL s)] 9)).heap.size := by have := HB2.out.size; simp; omega
      have hzz0 : w0.heap.size ≤ (w3.alloc (.cells #[.string (parL s)] 9)).heap.size := by have := HB3.out; simp; omega
      go_wp2_with (refine wpList_append_g (by rfl) (.tmp 45) (.tmp 47) (by rfl) elStr (by rfl) OW.out (by rfl) (srcS w3 (parL s)) (by unfold maxLen; have := parN_count s; omega) (by have := parN_count s; omega) hzz0 ?_)
      intro v5 w5 ho5 hf5 hv5
      have hown5 : w5.ownsRow w0.heap.size 9 1 v5 (parN s ++ [parL s]).length ((parN s ++ [parL s]).map Value.string) := by
        rw [List.length_append, List.length_singleton, List.map_append]
        exact ho5
      have hb5 : Below w0.heap.size w0 w5 := (HBZ.out.alloc HB3.out _).trans (hf5.toBelow hzz0 fun x hx => (HO2.out.lt _ hx).1)
      have hst5 := StrsAt.own hown5
      obtain ⟨ga, gc, rfl⟩ := own_shape ho5
      have HLG := Lib.hid (long_any hst5 (by rw [List.length_append, List.length_singleton]; have := parN_count s; omega) (fun x hx => by
        rcases List.mem_append.1 hx with hx | hx
        · exact Nat.le_trans (parN_size s x hx) HSZ.out
        · rw [List.mem_singleton.1 hx]; exact Nat.le_trans (parL_size s) HSZ.out))
      have OB5 := Lib.hid ((hb5.block _ (blk_lt OB0.out)).trans OB0.out)
      have BW := Lib.hid (HB0.out.trans (hb5.mono HB0.out.size))
      clear ho5 hf5 hv5 hown5 hb5 hst5 OW HO2 HL HST2 hzz hzz0 OB2
      have c0 := cell_blk_some OB5.out (i := 0) rfl
      have c1 := cell_blk_some OB5.out (i := 1) rfl
      have c2 := cell_blk_some OB5.out (i := 2) rfl
      have c3 := cell_blk_some OB5.out (i := 3) rfl
      have f0 := free_blk (i := 0) OB5.out
      have f1 := free_blk (i := 1) OB5.out
      have f2 := free_blk (i := 2) OB5.out
      have f3 := free_blk (i := 3) OB5.out
      go_wp2_with fail
      refine HLG.out.mono ?_
      rintro e w6 ⟨rfl, rfl⟩
      go_wp2_with fail
      have hfin := blk_set (i := 3) (blk_set (i := 2) (blk_set (i := 1) (blk_set (i := 0) OB5.out (.pointer none)) (.string (parL s))) (.bool (splitD s))) (.int .i64 (longN (parN s ++ [parL s])))
      refine bodyPost_ret (results_row_tmp rfl _ _ w.heap.size _ _ _ _ rfl hfin Try.underlying81 rfl (by kernel_rfl)) rfl ?_
      exact ⟨by rw [HR.out]; rfl, (((BW.out.setCell (Nat.le_refl _) _).setCell (Nat.le_refl _) _).setCell (Nat.le_refl _) _).setCell (Nat.le_refl _) _⟩
    | inl p =>
      have hi := look_there (HT.out.below HB2.out) hq
      obtain ⟨ndi, hmi⟩ := Option.isSome_iff_exists.1 hi
      obtain ⟨bi, hpi, _⟩ := HT.out.at_ hmi
      have HD : Hid (Calls Try.prog 32 #[.pointer (some ⟨bi, 0, none⟩)] w3 fun e w' => e = .returned (.bool (isDir M p)) ∧ w' = w3) := Lib.hid (by
        have := dir_any (HT.out.below HB2.out) hi
        rw [hpi] at this
        exact this)
      have hr : placeV P M s = .tuple #[placeA (.pointer (some ⟨bi, 0, none⟩)) (parL s) (splitD s) (longN (parN s ++ [parL s])), .int .i64 (if isDir M p then 0 else 20)] := by
        rw [HV.out, if_neg (by rw [HE.out]; simp), hq]
        show Value.tuple #[placeA (nptr (P p)) _ _ _, _] = _
        rw [hpi]; rfl
      rw [show leadV P (.inl p) = .tuple #[.pointer (some ⟨bi, 0, none⟩), .int .i64 0] by show Value.tuple #[nptr (P p), _] = _; rw [hpi]; rfl]
      have HR := Lib.hid hr
      clear hr HV hb03 hq hmi hpi hi
      generalize isDir M p = di at *
      cases di
      · skip
        go_wp2_with fail
        refine HD.out.mono ?_
        rintro e w4 ⟨rfl, hw4⟩
        obtain rfl := hw4.symm
        have OW := Lib.hid (own_frame HO2.out (S := fun _ => False) ((Fr.refl _ w3).alloc (.cells #[.string (parL s)] 9)) fun _ _ => id)
        have hzz : w.heap.size ≤ (w3.alloc (.cells #[.string (parL s)] 9)).heap.size := by have := HB2.out.size; simp; omega
        have hzz0 : w0.heap.size ≤ (w3.alloc (.cells #[.string (parL s)] 9)).heap.size := by have := HB3.out; simp; omega
        go_wp2_with (refine wpList_append_g (by rfl) (.tmp 45) (.tmp 47) (by rfl) elStr (by rfl) OW.out (by rfl) (srcS w3 (parL s)) (by unfold maxLen; have := parN_count s; omega) (by have := parN_count s; omega) hzz0 ?_)
        intro v5 w5 ho5 hf5 hv5
        have hown5 : w5.ownsRow w0.heap.size 9 1 v5 (parN s ++ [parL s]).length ((parN s ++ [parL s]).map Value.string) := by
          rw [List.length_append, List.length_singleton, List.map_append]
          exact ho5
        have hb5 : Below w0.heap.size w0 w5 := (HBZ.out.alloc HB3.out _).trans (hf5.toBelow hzz0 fun x hx => (HO2.out.lt _ hx).1)
        have hst5 := StrsAt.own hown5
        obtain ⟨ga, gc, rfl⟩ := own_shape ho5
        have HLG := Lib.hid (long_any hst5 (by rw [List.length_append, List.length_singleton]; have := parN_count s; omega) (fun x hx => by
          rcases List.mem_append.1 hx with hx | hx
          · exact Nat.le_trans (parN_size s x hx) HSZ.out
          · rw [List.mem_singleton.1 hx]; exact Nat.le_trans (parL_size s) HSZ.out))
        have OB5 := Lib.hid ((hb5.block _ (blk_lt OB0.out)).trans OB0.out)
        have BW := Lib.hid (HB0.out.trans (hb5.mono HB0.out.size))
        clear ho5 hf5 hv5 hown5 hb5 hst5 OW HO2 HL HST2 hzz hzz0 OB2
        have c0 := cell_blk_some OB5.out (i := 0) rfl
        have c1 := cell_blk_some OB5.out (i := 1) rfl
        have c2 := cell_blk_some OB5.out (i := 2) rfl
        have c3 := cell_blk_some OB5.out (i := 3) rfl
        have f0 := free_blk (i := 0) OB5.out
        have f1 := free_blk (i := 1) OB5.out
        have f2 := free_blk (i := 2) OB5.out
        have f3 := free_blk (i := 3) OB5.out
        go_wp2_with fail
        refine HLG.out.mono ?_
        rintro e w6 ⟨rfl, rfl⟩
        go_wp2_with fail
        have hfin := blk_set (i := 3) (blk_set (i := 2) (blk_set (i := 1) (blk_set (i := 0) OB5.out (.pointer (some ⟨bi, 0, none⟩))) (.string (parL s))) (.bool (splitD s))) (.int .i64 (longN (parN s ++ [parL s])))
        refine bodyPost_ret (results_row_tmp rfl _ _ w.heap.size _ _ _ _ rfl hfin Try.underlying81 rfl (by kernel_rfl)) rfl ?_
        exact ⟨by rw [HR.out]; rfl, (((BW.out.setCell (Nat.le_refl _) _).setCell (Nat.le_refl _) _).setCell (Nat.le_refl _) _).setCell (Nat.le_refl _) _⟩
      · skip
        go_wp2_with fail
        refine HD.out.mono ?_
        rintro e w4 ⟨rfl, hw4⟩
        obtain rfl := hw4.symm
        have OW := Lib.hid (own_frame HO2.out (S := fun _ => False) ((Fr.refl _ w3).alloc (.cells #[.string (parL s)] 9)) fun _ _ => id)
        have hzz : w.heap.size ≤ (w3.alloc (.cells #[.string (parL s)] 9)).heap.size := by have := HB2.out.size; simp; omega
        have hzz0 : w0.heap.size ≤ (w3.alloc (.cells #[.string (parL s)] 9)).heap.size := by have := HB3.out; simp; omega
        go_wp2_with (refine wpList_append_g (by rfl) (.tmp 45) (.tmp 47) (by rfl) elStr (by rfl) OW.out (by rfl) (srcS w3 (parL s)) (by unfold maxLen; have := parN_count s; omega) (by have := parN_count s; omega) hzz0 ?_)
        intro v5 w5 ho5 hf5 hv5
        have hown5 : w5.ownsRow w0.heap.size 9 1 v5 (parN s ++ [parL s]).length ((parN s ++ [parL s]).map Value.string) := by
          rw [List.length_append, List.length_singleton, List.map_append]
          exact ho5
        have hb5 : Below w0.heap.size w0 w5 := (HBZ.out.alloc HB3.out _).trans (hf5.toBelow hzz0 fun x hx => (HO2.out.lt _ hx).1)
        have hst5 := StrsAt.own hown5
        obtain ⟨ga, gc, rfl⟩ := own_shape ho5
        have HLG := Lib.hid (long_any hst5 (by rw [List.length_append, List.length_singleton]; have := parN_count s; omega) (fun x hx => by
          rcases List.mem_append.1 hx with hx | hx
          · exact Nat.le_trans (parN_size s x hx) HSZ.out
          · rw [List.mem_singleton.1 hx]; exact Nat.le_trans (parL_size s) HSZ.out))
        have OB5 := Lib.hid ((hb5.block _ (blk_lt OB0.out)).trans OB0.out)
        have BW := Lib.hid (HB0.out.trans (hb5.mono HB0.out.size))
        clear ho5 hf5 hv5 hown5 hb5 hst5 OW HO2 HL HST2 hzz hzz0 OB2
        have c0 := cell_blk_some OB5.out (i := 0) rfl
        have c1 := cell_blk_some OB5.out (i := 1) rfl
        have c2 := cell_blk_some OB5.out (i := 2) rfl
        have c3 := cell_blk_some OB5.out (i := 3) rfl
        have f0 := free_blk (i := 0) OB5.out
        have f1 := free_blk (i := 1) OB5.out
        have f2 := free_blk (i := 2) OB5.out
        have f3 := free_blk (i := 3) OB5.out
        go_wp2_with fail
        refine HLG.out.mono ?_
        rintro e w6 ⟨rfl, rfl⟩
        go_wp2_with fail
        have hfin := blk_set (i := 3) (blk_set (i := 2) (blk_set (i := 1) (blk_set (i := 0) OB5.out (.pointer (some ⟨bi, 0, none⟩))) (.string (parL s))) (.bool (splitD s))) (.int .i64 (longN (parN s ++ [parL s])))
        refine bodyPost_ret (results_row_tmp rfl _ _ w.heap.size _ _ _ _ rfl hfin Try.underlying81 rfl (by kernel_rfl)) rfl ?_
        exact ⟨by rw [HR.out]; rfl, (((BW.out.setCell (Nat.le_refl _) _).setCell (Nat.le_refl _) _).setCell (Nat.le_refl _) _).setCell (Nat.le_refl _) _⟩
  · have hr : placeV P M s = .tuple #[placeA (.pointer none) ⟨#[]⟩ false 0, .int .i64 (parE s)] := by rw [HV.out, if_pos hE]
    have HR := Lib.hid hr
    unfold ParPost at HP
    generalize parE s = ec at *
    have c1 : (ec != 0) = true := by simp [hE]
    clear hr HV hE
    go_enter Try.func41, Try.ntmps41
    go_wp2_with fail
    generalize w.alloc (.cells #[.pointer none, .string ⟨#[]⟩, .bool false, .int .i64 0] 81) = w0 at *
    refine HP.out.mono ?_
    rintro e w1 ⟨v, rfl, hst, hb1, hown⟩
    obtain ⟨va, vc, rfl⟩ := hst.shape
    have HB1 := Lib.hid (below_call HB0.out hb1 (Nat.le_refl _))
    have ob1 := (hb1.block _ (blk_lt OB.out)).trans OB.out
    have OB1 := Lib.hid ob1
    have d0 := cell_blk_some ob1 (i := 0) rfl
    have d1 := cell_blk_some ob1 (i := 1) rfl
    have d2 := cell_blk_some ob1 (i := 2) rfl
    have d3 := cell_blk_some ob1 (i := 3) rfl
    have f0 := free_blk (i := 0) ob1
    have f1 := free_blk (i := 1) ob1
    have f2 := free_blk (i := 2) ob1
    have f3 := free_blk (i := 3) ob1
    clear hst hb1 hown HP OB ob1
    go_wp2_with fail
    have hfin := blk_set (i := 3) (blk_set (i := 2) (blk_set (i := 1) (blk_set (i := 0) OB1.out (.pointer none)) (.string ⟨#[]⟩)) (.bool false)) (.int .i64 0)
    refine bodyPost_ret (results_row_tmp rfl _ _ w.heap.size _ _ _ _ rfl hfin Try.underlying81 rfl (by kernel_rfl)) rfl ?_
    exact ⟨by rw [HR.out]; rfl, (((HB1.out.setCell (Nat.le_refl _) _).setCell (Nat.le_refl _) _).setCell (Nat.le_refl _) _).setCell (Nat.le_refl _) _⟩
end
end Go.Proofs.Ytoofcnehoffllaa
