/- Walk of the statement NameAgain of chapter 8: it returns true. -/
import Derived.Test.YtpgeldhleikcdaaN14
namespace Go.Proofs.Ytpgeldhleikcdaa
open Go.RowKit Go.ChangeShapes Go.WideShapes Go.ChangeAt

/-! ### a path with more '/' -/
def dbl (f : Nat → Bool) : Nat → List UInt8 → List UInt8
  | _, [] => []
  | i, x :: r => if (x == 47 && f i) = true then x :: 47 :: dbl f (i + 1) r else x :: dbl f (i + 1) r
theorem dbl_snoc (f : Nat → Bool) (x : UInt8) : ∀ (l : List UInt8) (i : Nat), dbl f i (l ++ [x]) = dbl f i l ++ (if (x == 47 && f (i + l.length)) = true then [x, 47] else [x])
  | [], i => by simp only [List.nil_append, dbl, List.length_nil, Nat.add_zero]
  | y :: r, i => by
    have ih := dbl_snoc f x r (i + 1)
    rw [List.cons_append, dbl, dbl, ih, List.length_cons, show i + (r.length + 1) = i + 1 + r.length by omega]
    split <;> simp
theorem fieldsB_dbl (f : Nat → Bool) : ∀ (l cur : List UInt8) (i : Nat), fieldsB cur (dbl f i l) = fieldsB cur l
  | [], cur, i => rfl
  | x :: r, cur, i => by
    rw [dbl]
    by_cases hx : x = 47
    · subst hx
      split
      · rw [fieldsB_slash, fieldsB_slash, fieldsB_slash, if_pos rfl, fieldsB_dbl f r [] (i + 1)]
      · rw [fieldsB_slash, fieldsB_slash, fieldsB_dbl f r [] (i + 1)]
    · rw [if_neg (by simp [hx]), fieldsB, fieldsB, if_neg hx, if_neg hx, fieldsB_dbl f r _ (i + 1)]
theorem head_dbl (f : Nat → Bool) (l : List UInt8) : (dbl f 0 l).head? = l.head? := by
  cases l with
  | nil => rfl
  | cons x r => rw [dbl]; split <;> rfl
theorem last_dbl (f : Nat → Bool) (l : List UInt8) : ((dbl f 0 l).getLast? == some 47) = (l.getLast? == some 47) := by
  by_cases h : l = []
  · subst h; rfl
  · obtain ⟨t, x, rfl⟩ : ∃ t x, l = t ++ [x] := ⟨l.dropLast, l.getLast h, (List.dropLast_concat_getLast h).symm⟩
    rw [dbl_snoc]
    split
    · rename_i hx
      rw [Bool.and_eq_true, beq_iff_eq] at hx
      rw [hx.1]; simp [List.getLast?_append]
    · simp [List.getLast?_append]
theorem again_L (f : Nat → Bool) (s T : ByteArray) (hT : T.data.toList = dbl f 0 s.data.toList) : splitL T = splitL s := by
  unfold splitL; rw [hT, fieldsB_dbl]
theorem again_E (f : Nat → Bool) (s T : ByteArray) (hT : T.data.toList = dbl f 0 s.data.toList) (h : splitE s = 0) : splitE T = if 255 < T.size then 36 else 0 := by
  have hbig : ¬ 255 < s.size := by intro hb; unfold splitE at h; rw [if_pos hb] at h; cases h
  unfold splitE at h ⊢
  rw [if_neg hbig] at h
  rw [again_L f s T hT, hT, head_dbl]
  split
  · rfl
  · exact h
theorem again_N (f : Nat → Bool) (s T : ByteArray) (hT : T.data.toList = dbl f 0 s.data.toList) (h : splitE s = 0) (hb : ¬ 255 < T.size) : splitN T = splitN s := by
  unfold splitN; rw [again_E f s T hT h, if_neg hb, h, again_L f s T hT]
theorem again_D (f : Nat → Bool) (s T : ByteArray) (hT : T.data.toList = dbl f 0 s.data.toList) (h : splitE s = 0) (hb : ¬ 255 < T.size) : splitD T = splitD s := by
  unfold splitD; rw [again_E f s T hT h, if_neg hb, h, hT, last_dbl]

/-! ### the bytes of the second argument -/
def BysAt (B : Nat) (w : World) (v : Value) (ys : List Int) : Prop :=
  (ys = [] ∧ ∃ a c, v = .slice a 0 c) ∨ (∃ g o c, v = .slice (some ⟨g, o, none⟩) ys.length c ∧ 0 < ys.length ∧ g < B ∧ ∀ j x, ys[j]? = some x → w.cell? ⟨g, o + j, none⟩ = some (.int .u8 x))
theorem BysAt.shape {B : Nat} {w : World} {v : Value} {l : List Int} (h : BysAt B w v l) : ∃ a c, v = .slice a l.length c := by
  rcases h with ⟨rfl, a, c, rfl⟩ | ⟨g, o, c, rfl, _⟩
  · exact ⟨a, c, rfl⟩
  · exact ⟨_, c, rfl⟩
theorem BysAt.cells {B : Nat} {w : World} {a : Option Addr} {n c : Nat} {l : List Int} (h : BysAt B w (.slice a n c) l) (hn : 0 < l.length) :
    ∃ g o, a = some ⟨g, o, none⟩ ∧ g < B ∧ ∀ j x, l[j]? = some x → w.cell? ⟨g, o + j, none⟩ = some (.int .u8 x) := by
  rcases h with ⟨rfl, _⟩ | ⟨g, o, c', h1, _, h4, h5⟩
  · simp at hn
  · injection h1 with e1 e2 e3
    exact ⟨g, o, e1, h4, h5⟩
theorem arg_bys {H : Type} {enc : TypeId × Value → H} {W : World} {base : Nat} {v : Value} {d : DataW H} {p : List MemPlace} (hval : Value.okWide Try.prog W .any base 33 v)
    (h : DataW.Trod enc Try.prog W 0 (fun _ => true) true 33 v d p) : ∃ ys, BysAt W.heap.size W v ys ∧ ∀ y ∈ ys, 0 ≤ y ∧ y ≤ 255 := by
  obtain ⟨a1, len, cap, rfl⟩ := okWide_slice Try.underlying33 hval
  obtain ⟨fuel, hf⟩ := h
  rcases open_ints Try.underlying33 Try.underlying5 (by kernel_rfl) hf with ⟨hcs, _⟩ | ⟨a, len', cap', zs, hcs, _, hl, _, hz, _, hcell, hwz⟩
  · simp [Value.cells] at hcs
    obtain ⟨rfl, rfl, rfl⟩ := hcs
    exact ⟨[], .inl ⟨rfl, _, _, rfl⟩, fun y hy => by cases hy⟩
  · simp [Value.cells] at hcs
    obtain ⟨rfl, rfl, rfl⟩ := hcs
    simp only [if_true] at hz
    refine ⟨zs.take len, ?_, fun y hy => ?_⟩
    · by_cases h0 : len = 0
      · subst h0
        exact .inl ⟨by simp, _, _, rfl⟩
      · have hlen : (zs.take len).length = len := by rw [List.length_take]; omega
        obtain ⟨g, o, rfl, hg⟩ := addr_of_cell (hcell 0 (by omega))
        refine .inr ⟨g, o, cap, by rw [hlen], by omega, hg, fun j x hx => ?_⟩
        rw [List.getElem?_take] at hx
        split at hx
        · have hj : j < zs.length := (List.getElem?_eq_some_iff.1 hx).1
          have hadd : (⟨g, o, none⟩ : Addr).add j = ⟨g, o + j, none⟩ := by unfold Addr.add; split <;> simp_all
          have := hcell j hj
          rw [hadd] at this
          rw [this, List.getD_eq_getElem?_getD, hx]; rfl
        · cases hx
    · simpa [Lit.wf, IntKind.min, IntKind.max, IntKind.signed, IntKind.bits] using hwz y (List.mem_of_mem_take hy)

def oddAt (ys : List Int) (i : Nat) : Bool := match ys[i]? with | some y => y % 2 == 1 | none => false

set_option maxHeartbeats 4000000 in
theorem lawAgain_any (s : ByteArray) {W : World} {v : Value} {ys : List Int} (hv : BysAt W.heap.size W v ys) (hy : ∀ y ∈ ys, 0 ≤ y ∧ y ≤ 255) :
    Calls Try.prog 4 #[.string s, v] W fun e w' => e = .returned (.bool true) ∧ Below W.heap.size W w' := by
  obtain ⟨a, c, rfl⟩ := hv.shape
  have HV := Lib.hid hv; have HY := Lib.hid hy
  clear hv hy
  by_cases hbig : 255 < s.size
  · have q1 : decide ((255 : Int) < (s.size : Int)) = true := dec_true (by omega)
    go_enter Try.func4, Try.ntmps4
    go_wp2_with fail
    refine (awake_any _).mono ?_
    rintro e w1 ⟨rfl, hb1⟩
    go_wp2_with fail
    refine (awake_any _).mono ?_
    rintro e w2 ⟨rfl, hb2⟩
    have hb := below_call hb1 hb2 (Nat.le_refl _)
    go_wp2_with fail
    go_ret
    exact ⟨rfl, hb⟩
  · have q1 : decide ((255 : Int) < (s.size : Int)) = false := dec_false (by omega)
    have s1 := fun w => split_any s (by omega) w
    unfold SplitPost at s1
    by_cases h0 : splitE s = 0
    · have hjE := join_split_E s h0
      have hsz : ∀ x ∈ splitN s, x.size ≤ 1000000 := by
        intro x hx
        unfold splitN at hx
        rw [if_pos h0] at hx
        have := splitL_size s x hx; omega
      have s2 := fun w => split_any (joinP (splitN s)) (by have := joinP_size (splitN s); omega) w
      unfold SplitPost at s2
      have hc1 := splitN_count s
      have aE := fun f T hT => again_E f s T hT h0
      have aN := fun f T hT hb => again_N f s T hT h0 hb
      have aD := fun f T hT hb => again_D f s T hT h0 hb
      rw [h0] at s1
      rw [splitE_join hjE, splitN_join hjE] at s2
      have S1 := Lib.hid s1; have S2 := Lib.hid s2; have SZ := Lib.hid hsz; have JE := Lib.hid hjE
      have AE := Lib.hid aE; have AN := Lib.hid aN; have AD := Lib.hid aD
      clear s1 s2 hsz hjE aE aN aD h0
      generalize splitN s = L at *
      generalize splitD s = dd at *
      generalize splitD (joinP L) = d2 at *
      go_enter Try.func4, Try.ntmps4
      go_wp2_with fail
      refine (awake_any _).mono ?_
      rintro e w1 ⟨rfl, hb1⟩
      go_wp2_with fail
      refine (S1.out _).mono ?_
      rintro e w2 ⟨v2, rfl, hv2, hb2⟩
      have hbel2 := below_call hb1 hb2 (Nat.le_refl _)
      obtain ⟨a2, c2, rfl⟩ := hv2.shape
      have J := Lib.hid (join_any hv2 (Nat.le_refl _) SZ.out hc1)
      have j' := J.out
      rw [JE.out] at j'
      have J1 := Lib.hid j'
      clear J j' hb1 hb2
      generalize joinP L = pj at *
      go_wp2_with fail
      refine J1.out.mono ?_
      rintro e w3 ⟨rfl, hb3⟩
      have hv3 := (hv2.below hb3).mono hb3.size
      have hbel3 := below_call hbel2 hb3 (Nat.le_refl _)
      clear hv2 hb3 hbel2
      go_wp2_with fail
      refine (S2.out _).mono ?_
      rintro e w4 ⟨v4, rfl, hv4, hb4⟩
      have hv3' := (hv3.below hb4).mono hb4.size
      have hbel4 := below_call hbel3 hb4 (Nat.le_refl _)
      have T1 := Lib.hid (texts_same hv3' hv4 (Nat.le_refl _) hc1)
      clear hv3 hv4 hb4 hbel3
      go_wp2_with fail
      refine T1.out.mono ?_
      rintro e w5 ⟨rfl, hb5⟩
      have hv5 := (hv3'.below hb5).mono hb5.size
      have hbel5 := below_call hbel4 hb5 (Nat.le_refl _)
      clear hb5 hbel4 hv3'
      go_wp2_with fail
      go_loop [13, 14] (fun t i => ∃ k : Nat, ∃ T : ByteArray, k ≤ s.size ∧ i = .int .i64 k ∧ t = .string T ∧ T.data.toList = dbl (oddAt ys) 0 (s.data.toList.take k) ∧ T.size ≤ 2 * k) (fun _ i => s.size - (intOf i).toNat)
      case atStart => exact ⟨0, ⟨#[]⟩, Nat.zero_le _, rfl, rfl, rfl, Nat.le_refl _⟩
      case round =>
        obtain ⟨k, T, hk, rfl, rfl, hT, hTs⟩ := hrel
        have HT := Lib.hid hT; clear hT
        by_cases hlt : k < s.size
        · have hx := Lib.data_getElem? s k hlt
          have hex : (s.extract k (k + 1)).data.toList = [s[k]] := by
            rw [← Lib.toList_data, Lib.extract_toList, Nat.add_sub_cancel_left, List.drop_eq_getElem_cons (show k < s.data.toList.length by rw [← Lib.size_eq]; exact hlt), List.take_succ_cons, List.take_zero]
            congr 1
          have hes : (s.extract k (k + 1)).size = 1 := by rw [Lib.size_eq, hex]; rfl
          have hlen : (s.data.toList.take k).length = k := by rw [List.length_take, ← Lib.size_eq]; omega
          have hsn : dbl (oddAt ys) 0 (s.data.toList.take (k + 1)) = dbl (oddAt ys) 0 (s.data.toList.take k) ++ (if (s[k] == 47 && oddAt ys k) = true then [s[k], 47] else [s[k]]) := by
            rw [List.take_add_one, hx]
            have := dbl_snoc (oddAt ys) s[k] (s.data.toList.take k) 0
            rw [hlen, Nat.zero_add] at this
            exact this
          have q47 : ((s[k].toNat : Int) == 47) = (s[k] == 47) := by
            rw [Bool.eq_iff_iff, beq_iff_eq, beq_iff_eq, ← UInt8.toNat_inj]; show _ ↔ s[k].toNat = 47; omega
          have HSN := Lib.hid hsn; have HEX := Lib.hid hex
          clear hsn hex hx hlen
          by_cases h47 : (s[k] == 47) = true
          · rw [h47] at q47
            by_cases hky : k < ys.length
            · obtain ⟨y, hy⟩ : ∃ y, ys[k]? = some y := ⟨_, List.getElem?_eq_getElem hky⟩
              have hv := HV.out
              obtain ⟨g, o, rfl, hg, hcl⟩ := hv.cells (by omega)
              have hc := (cell_below hbel5 hg (o := o + k)).trans (hcl k y hy)
              obtain ⟨y0, y1⟩ := HY.out y (List.mem_of_getElem? hy)
              have hodd : oddAt ys k = (y % 2 == 1) := by unfold oddAt; rw [hy]
              have HO := Lib.hid hodd
              have H47 := Lib.hid h47
              clear hv hcl hy hodd h47
              by_cases hod : (y % 2 == 1) = true
              · have hlist : dbl (oddAt ys) 0 (s.data.toList.take (k + 1)) = (T ++ s.extract k (k + 1) ++ ⟨#[47]⟩).data.toList := by
                  rw [HSN.out, H47.out, HO.out, hod, ← HT.out]
                  rw [ByteArray.data_append, Array.toList_append, ByteArray.data_append, Array.toList_append, HEX.out, List.append_assoc]; rfl
                have HL := Lib.hid hlist; clear hlist
                go_wp2_with fail
                go_round
                case rel =>
                  refine ⟨k + 1, T ++ s.extract k (k + 1) ++ ⟨#[47]⟩, by omega, by go_num, rfl, HL.out.symm, ?_⟩
                  rw [ByteArray.size_append, ByteArray.size_append, hes]
                  show T.size + 1 + 1 ≤ _
                  omega
                case measure => simp [intOf]; omega
              · have hod' : (y % 2 == 1) = false := by simpa using hod
                have hlist : dbl (oddAt ys) 0 (s.data.toList.take (k + 1)) = (T ++ s.extract k (k + 1)).data.toList := by
                  rw [HSN.out, H47.out, HO.out, hod', ← HT.out]
                  rw [ByteArray.data_append, Array.toList_append, HEX.out]; rfl
                have HL := Lib.hid hlist; clear hlist hod
                go_wp2_with fail
                go_round
                case rel =>
                  refine ⟨k + 1, T ++ s.extract k (k + 1), by omega, by go_num, rfl, HL.out.symm, ?_⟩
                  rw [ByteArray.size_append, hes]; omega
                case measure => simp [intOf]; omega
            · have hodd : oddAt ys k = false := by unfold oddAt; rw [List.getElem?_eq_none (by omega)]
              have hlist : dbl (oddAt ys) 0 (s.data.toList.take (k + 1)) = (T ++ s.extract k (k + 1)).data.toList := by
                rw [HSN.out, hodd, Bool.and_false, ← HT.out]
                rw [ByteArray.data_append, Array.toList_append, HEX.out]; rfl
              have HL := Lib.hid hlist; clear hlist hodd h47
              go_wp2_with fail
              go_round
              case rel =>
                refine ⟨k + 1, T ++ s.extract k (k + 1), by omega, by go_num, rfl, HL.out.symm, ?_⟩
                rw [ByteArray.size_append, hes]; omega
              case measure => simp [intOf]; omega
          · have h47' : (s[k] == 47) = false := by simpa using h47
            rw [h47'] at q47
            have hlist : dbl (oddAt ys) 0 (s.data.toList.take (k + 1)) = (T ++ s.extract k (k + 1)).data.toList := by
              rw [HSN.out, h47', Bool.false_and, ← HT.out]
              rw [ByteArray.data_append, Array.toList_append, HEX.out]; rfl
            have HL := Lib.hid hlist; clear hlist h47 h47'
            go_wp2_with fail
            go_round
            case rel =>
              refine ⟨k + 1, T ++ s.extract k (k + 1), by omega, by go_num, rfl, HL.out.symm, ?_⟩
              rw [ByteArray.size_append, hes]; omega
            case measure => simp [intOf]; omega
        · obtain rfl : k = s.size := by omega
          have hTd := HT.out
          rw [List.take_of_length_le (by rw [← Lib.size_eq]; exact Nat.le_refl _)] at hTd
          have hsp := fun w => split_any T (by omega) w
          unfold SplitPost at hsp
          have aE := AE.out _ T hTd
          by_cases hbT : 255 < T.size
          · have q2 : decide ((255 : Int) < (T.size : Int)) = true := dec_true (by omega)
            rw [if_pos hbT] at aE
            rw [aE] at hsp
            have SP := Lib.hid hsp
            clear hsp aE hTd hbT
            go_wp2_with fail
            refine (SP.out _).mono ?_
            rintro e w6 ⟨v6, rfl, hv6, hb6⟩
            have hbel6 := below_call hbel5 hb6 (Nat.le_refl _)
            go_wp2_with fail
            go_ret
            exact ⟨rfl, hbel6⟩
          · have q2 : decide ((255 : Int) < (T.size : Int)) = false := dec_false (by omega)
            rw [if_neg hbT] at aE
            rw [aE, AN.out _ T hTd hbT, AD.out _ T hTd hbT] at hsp
            have SP := Lib.hid hsp
            have qd : (dd == dd) = true := by simp
            clear hsp aE hTd hbT
            go_wp2_with fail
            refine (SP.out _).mono ?_
            rintro e w6 ⟨v6, rfl, hv6, hb6⟩
            have hv5' := (hv5.below hb6).mono hb6.size
            have hbel6 := below_call hbel5 hb6 (Nat.le_refl _)
            have T2 := Lib.hid (texts_same hv6 hv5' (Nat.le_refl _) hc1)
            clear hb6 hv5' hv6 hv5
            go_wp2_with fail
            refine T2.out.mono ?_
            rintro e w7 ⟨rfl, hb7⟩
            have hbel7 := below_call hbel6 hb7 (Nat.le_refl _)
            go_wp2_with fail
            go_ret
            exact ⟨rfl, hbel7⟩
    · have hN : splitN s = [] := by unfold splitN; rw [if_neg h0]
      have hD : splitD s = false := by unfold splitD; rw [decide_eq_false h0]; rfl
      have h3 : (splitE s != 0) = true := by simpa using h0
      rw [hN, hD] at s1
      have S1 := Lib.hid s1
      clear s1 hN hD h0
      generalize splitE s = ec at *
      go_enter Try.func4, Try.ntmps4
      go_wp2_with fail
      refine (awake_any _).mono ?_
      rintro e w1 ⟨rfl, hb1⟩
      go_wp2_with fail
      refine (S1.out _).mono ?_
      rintro e w2 ⟨v2, rfl, hv2, hb2⟩
      have hbel2 := below_call hb1 hb2 (Nat.le_refl _)
      obtain ⟨a2, c2, rfl⟩ := hv2.shape
      go_wp2_with fail
      go_ret
      exact ⟨rfl, hbel2⟩
end Go.Proofs.Ytpgeldhleikcdaa
