/- Walks of name.Join and marlref08.Join. -/
import Derived.Test.YtpgeldhleikcdaaN4
namespace Go.Proofs.Ytpgeldhleikcdaa
open Go.RowKit

/-- The path of names. -/
def joinB (l : List ByteArray) : List UInt8 := 47 :: Lib.join (l.map (·.data.toList)) [47]
def joinE (l : List ByteArray) : Int := if firstE l = 0 then (if 255 < (joinB l).length then 36 else 0) else firstE l
def joinP (l : List ByteArray) : ByteArray := if joinE l = 0 then mkS (joinB l) else ⟨#[]⟩

theorem firstE_name {l : List ByteArray} (h : firstE l = 0) : ∀ x ∈ l, nameE x.data.toList = 0 := by
  induction l with
  | nil => intro x hx; cases hx
  | cons y r ih =>
    intro x hx
    rw [firstE] at h
    by_cases hy : nameE y.data.toList = 0
    · rw [if_pos hy] at h
      rcases List.mem_cons.1 hx with rfl | hx
      · exact hy
      · exact ih h x hx
    · rw [if_neg hy] at h; exact absurd h hy
theorem nameE_len {l : List UInt8} (h : nameE l = 0) : l.length ≤ 14 ∧ l ≠ [] ∧ ∀ x ∈ l, x ≠ 47 := by
  unfold nameE at h
  split at h
  · cases h
  · rename_i hl
    split at h
    · cases h
    · rename_i hb
      simp only [Bool.or_eq_true, not_or] at hb
      refine ⟨by omega, ?_, fun x hx he => ?_⟩
      · intro he; subst he; simp at hb
      · subst he; exact absurd (show hasBad l = true from List.any_eq_true.2 ⟨47, hx, rfl⟩) hb.2
theorem join_length_le : ∀ (l : List (List UInt8)), (∀ x ∈ l, x.length ≤ 14) → (Lib.join l [47]).length ≤ 15 * l.length
  | [], _ => by simp [Lib.join]
  | [x], h => by have := h x (by simp); simp [Lib.join]; omega
  | x :: y :: r, h => by
    have h1 := h x (by simp)
    have h2 := join_length_le (y :: r) fun z hz => h z (by simp [hz])
    simp [Lib.join] at h2 ⊢; omega

set_option maxHeartbeats 1000000 in
theorem join_any {B : Nat} {w : World} {v : Value} {l : List ByteArray} (h : StrsAt B w v l) (hB : B ≤ w.heap.size) (hs : ∀ x ∈ l, x.size ≤ 1000000) (hn : l.length ≤ 1000) :
    Calls Try.prog 10 #[v] w fun e w' => e = .returned (.tuple #[.string (joinP l), .int .i64 (joinE l)]) ∧ Below w.heap.size w w' := by
  have hf := first_any h hB (fun x hx => by have := hs x hx; omega) (by omega)
  have HF := Lib.hid hf; clear hf
  by_cases h0 : firstE l = 0
  · obtain ⟨J, hJ⟩ : ∃ J, J = mkS (Lib.join (l.map (·.data.toList)) [47]) := ⟨_, rfl⟩
    have hJd : J.data.toList = Lib.join (l.map (·.data.toList)) [47] := by rw [hJ, data_mkS]
    have hjl : (Lib.join (l.map (·.data.toList)) [47]).length ≤ 15000 := by
      have := join_length_le (l.map (·.data.toList)) (fun x hx => by
        obtain ⟨y, hy, rfl⟩ := List.mem_map.1 hx
        exact (nameE_len (firstE_name h0 y hy)).1)
      rw [List.length_map] at this; omega
    have hj : ∀ w', Below w.heap.size w w' → Calls Try.prog 19 #[v, .string ⟨#[47]⟩] w' fun e w'' => e = .returned (.string J) ∧ Below w'.heap.size w' w'' := by
      intro w' hb
      rcases h.below (hb.mono hB) with ⟨rfl, a, c, rfl⟩ | ⟨g, o, c, rfl, h2, h3, h4, h5⟩
      · refine (Try.strings_Join_none a c ⟨#[47]⟩ w').mono ?_
        rintro e w'' ⟨rfl, rfl⟩
        exact ⟨by rw [hJ]; rfl, Below.refl _ _⟩
      · have := Try.strings_Join g o c l ⟨#[47]⟩ w' h5 (Nat.lt_of_lt_of_le h4 (Nat.le_trans hB hb.size)) (by omega) h2 (by show (Lib.join _ [47]).length ≤ _; omega)
        refine this.mono ?_
        rintro e w'' ⟨rfl, hb2⟩
        exact ⟨by rw [hJ]; rfl, hb2⟩
    have HJ := Lib.hid hj; clear hj
    obtain ⟨P, hP⟩ : ∃ P : ByteArray, P = ⟨#[47]⟩ ++ J := ⟨_, rfl⟩
    have hPd : P.data.toList = joinB l := by rw [hP, ByteArray.data_append, Array.toList_append, hJd]; rfl
    have hPm : P = mkS (joinB l) := by rw [← hPd, mkS_data]
    have hPs : P.size = (joinB l).length := by rw [Lib.size_eq, hPd]
    have hJs : J.size ≤ 15000 := by rw [Lib.size_eq, hJd]; exact hjl
    have hPJ : P.size = 1 + J.size := by rw [hP, ByteArray.size_append]; rfl
    by_cases hbig : 255 < P.size
    · have hE : joinE l = 36 := by unfold joinE; rw [if_pos h0, if_pos (by omega)]
      have hPP : joinP l = ⟨#[]⟩ := by unfold joinP; rw [hE]; rfl
      have q : decide ((255 : Int) < 1 + (J.size : Int)) = true := dec_true (by omega)
      rw [hE, hPP]
      rw [h0] at HF
      clear hE hPP hPs hPm hPd hJd hJ h0 hjl hPJ hP hbig
      go_enter Try.func10, Try.ntmps10
      go_wp2_with fail
      refine HF.out.mono ?_
      rintro e w1 ⟨rfl, hb1⟩
      go_wp2_with fail
      refine (HJ.out _ hb1).mono ?_
      rintro e w2 ⟨rfl, hb2⟩
      have hb := below_call hb1 hb2 (Nat.le_refl _)
      go_wp2_with fail
      go_ret2
      exact ⟨rfl, hb⟩
    · have hE : joinE l = 0 := by unfold joinE; rw [if_pos h0, if_neg (by omega)]
      have hPP : joinP l = ⟨#[47]⟩ ++ J := by unfold joinP; rw [hE, if_pos rfl, ← hPm, hP]
      have q : decide ((255 : Int) < 1 + (J.size : Int)) = false := dec_false (by omega)
      rw [hE, hPP]
      rw [h0] at HF
      clear hE hPP hPs hPm hPd hJd hJ h0 hjl hPJ hP hbig
      go_enter Try.func10, Try.ntmps10
      go_wp2_with fail
      refine HF.out.mono ?_
      rintro e w1 ⟨rfl, hb1⟩
      go_wp2_with fail
      refine (HJ.out _ hb1).mono ?_
      rintro e w2 ⟨rfl, hb2⟩
      have hb := below_call hb1 hb2 (Nat.le_refl _)
      go_wp2_with fail
      go_ret2
      exact ⟨rfl, hb⟩
  · have hE : joinE l = firstE l := by unfold joinE; rw [if_neg h0]
    have hPP : joinP l = ⟨#[]⟩ := by unfold joinP; rw [hE, if_neg h0]
    have h1 : (firstE l == 0) = false := by simpa using h0
    rw [hE, hPP]
    clear hE hPP h0
    generalize firstE l = q at *
    go_enter Try.func10, Try.ntmps10
    go_wp2_with fail
    refine HF.out.mono ?_
    rintro e w1 ⟨rfl, hb1⟩
    go_wp2_with fail
    go_ret2
    exact ⟨rfl, hb1⟩

/-- What marlref08.Join has made of the first names. -/
def slashed (l : List ByteArray) : List UInt8 := l.flatMap fun x => 47 :: x.data.toList
theorem slashed_joinB : ∀ (l : List ByteArray), l ≠ [] → slashed l = joinB l
  | [], h => absurd rfl h
  | x :: r, _ => by
    unfold joinB
    rw [List.map_cons, Lib.join_cons, slashed, List.flatMap_cons, List.cons_append]
    congr 2
    unfold Lib.joinTail
    rw [List.flatMap_def, List.map_map]
    rfl
theorem slashed_snoc (l : List ByteArray) (k : Nat) (x : ByteArray) (hx : l[k]? = some x) : slashed (l.take (k + 1)) = slashed (l.take k) ++ (47 :: x.data.toList) := by
  rw [List.take_add_one, hx]; simp [slashed]

set_option maxHeartbeats 1000000 in
theorem refJoin_any {B : Nat} {w : World} {v : Value} {l : List ByteArray} (h : StrsAt B w v l) (hs : ∀ x ∈ l, x.size ≤ 1000000) (hn : l.length ≤ 1000) :
    Calls Try.prog 11 #[v] w fun e w' => e = .returned (.tuple #[.string (joinP l), .int .i64 (joinE l)]) ∧ w' = w := by
  rcases h with ⟨rfl, a, c, rfl⟩ | ⟨g, o, c, rfl, h2, h3, h4, h5⟩
  · go_enter Try.func11, Try.ntmps11
    go_wp2_with fail
    go_loop [4, 9] (fun t i => t = .string ⟨#[]⟩ ∧ i = .int .i64 0) (fun _ _ => 0)
    case atStart => exact ⟨rfl, rfl⟩
    case round =>
      obtain ⟨rfl, rfl⟩ := hrel
      go_wp2_with fail
      go_ret2
      exact ⟨rfl, rfl⟩
  · have H5 := Lib.hid h5; clear h5
    have HS := Lib.hid hs; clear hs
    obtain ⟨r, hr⟩ : ∃ r, r = firstE l := ⟨_, rfl⟩
    have HR := Lib.hid hr; clear hr
    go_enter Try.func11, Try.ntmps11
    go_wp2_with fail
    go_loop [4, 9] (fun t i => ∃ k : Nat, ∃ T : ByteArray, k ≤ l.length ∧ i = .int .i64 k ∧ t = .string T ∧ T.data.toList = slashed (l.take k) ∧ T.size ≤ 15 * k ∧ firstE (l.drop k) = r) (fun _ i => l.length - (intOf i).toNat)
    case atStart => exact ⟨0, ⟨#[]⟩, Nat.zero_le _, rfl, rfl, rfl, Nat.le_refl _, HR.out.symm⟩
    case round =>
      obtain ⟨k, T, hk, rfl, rfl, hT, hTs, hf⟩ := hrel
      have HT := Lib.hid hT; clear hT
      by_cases hlt : k < l.length
      · obtain ⟨x, hx⟩ : ∃ x, l[k]? = some x := ⟨_, List.getElem?_eq_getElem hlt⟩
        have hxs := HS.out x (List.mem_of_getElem? hx)
        have hc := H5.out k x hx
        have hname := refName_any x (by omega) w
        rw [firstE_drop l k x hx] at hf
        by_cases h0 : nameE x.data.toList = 0
        · rw [if_pos h0] at hf
          rw [h0] at hname
          have hxl := (nameE_len h0).1
          rw [← Lib.size_eq] at hxl
          have hsn := slashed_snoc l k x hx
          rw [← HT.out] at hsn
          have HF := Lib.hid hf; have HSN := Lib.hid hsn
          clear hf hsn hx h0
          go_wp2_with fail
          refine hname.mono ?_
          rintro e w1 ⟨rfl, hw⟩
          obtain rfl := hw.symm
          go_wp2_with fail
          go_round
          case rel =>
            refine ⟨k + 1, T ++ ⟨#[47]⟩ ++ x, by omega, by go_num, rfl, ?_, ?_, HF.out⟩
            · rw [HSN.out]; simp
            · rw [ByteArray.size_append, ByteArray.size_append]
              show T.size + 1 + x.size ≤ _
              omega
          case measure => simp [intOf]; omega
        · rw [if_neg h0] at hf
          have h1 : (nameE x.data.toList == 0) = false := by simpa using h0
          have hrl := HR.out
          rw [← hf] at hrl
          have hE : joinE l = nameE x.data.toList := by unfold joinE; rw [← hrl, if_neg h0]
          have hPP : joinP l = ⟨#[]⟩ := by unfold joinP; rw [hE, if_neg h0]
          have HE := Lib.hid hE; have HPP := Lib.hid hPP
          clear hE hPP hrl hf h0 hx
          generalize nameE x.data.toList = q at *
          go_wp2_with fail
          refine hname.mono ?_
          rintro e w1 ⟨rfl, hw⟩
          obtain rfl := hw.symm
          go_wp2_with fail
          go_ret2
          exact ⟨by rw [HE.out, HPP.out]; rfl, rfl⟩
      · obtain rfl : k = l.length := by omega
        rw [List.drop_length] at hf
        have hr0 : firstE l = 0 := by rw [← HR.out, ← hf]; rfl
        have hTd := HT.out
        rw [List.take_length, slashed_joinB l (by intro h; subst h; simp at h3)] at hTd
        have hTl : T.size = (joinB l).length := by rw [Lib.size_eq, hTd]
        have hTm : T = mkS (joinB l) := by rw [← hTd, mkS_data]
        have qe : T.toList.isEmpty = false := by rw [ByteArray.toList_eq, hTd]; rfl
        by_cases hbig : 255 < T.size
        · have hE : joinE l = 36 := by unfold joinE; rw [if_pos hr0, if_pos (by omega)]
          have hPP : joinP l = ⟨#[]⟩ := by unfold joinP; rw [hE]; rfl
          have q : decide ((255 : Int) < (T.size : Int)) = true := dec_true (by omega)
          have HE := Lib.hid hE; have HPP := Lib.hid hPP
          clear hE hPP hTd hTl hTm hf hr0 hbig
          go_wp2_with fail
          go_ret2
          exact ⟨by rw [HE.out, HPP.out]; rfl, rfl⟩
        · have hE : joinE l = 0 := by unfold joinE; rw [if_pos hr0, if_neg (by omega)]
          have hPP : joinP l = T := by unfold joinP; rw [hE, if_pos rfl, ← hTm]
          have q : decide ((255 : Int) < (T.size : Int)) = false := dec_false (by omega)
          have HE := Lib.hid hE; have HPP := Lib.hid hPP
          clear hE hPP hTd hTl hTm hf hr0 hbig
          go_wp2_with fail
          go_ret2
          exact ⟨by rw [HE.out, HPP.out]; rfl, rfl⟩
end Go.Proofs.Ytpgeldhleikcdaa
