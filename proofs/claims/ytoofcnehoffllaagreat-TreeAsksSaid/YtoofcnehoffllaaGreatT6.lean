/- Walks of tree's dir, lead, look, file. -/
/- Walks of tree's look, file. -/
/- Walks of tree's file, long, New. -/
/- Walk of tree's place. -/
import Derived.Test.YtoofcnehoffllaaGreatT2
import Derived.Laws.Cover3
import Derived.Test.YtoofcnehoffllaaGreatGRows
namespace Go.Proofs.YtoofcnehoffllaaGreat
open Go.RowKit

section
variable {w : World} {tb nb cap : Nat} {P E : Nat → Option Nat} {V : Nat → Value} {M : TM}
theorem TIn.dirV (h : TIn w tb nb cap P E V M) {i : Nat} {nd : Nd} (hm : M i = some nd) : (E i).isSome = isDir M i := by
  rw [h.isD hm]; unfold isDir; rw [hm]
set_option maxRecDepth 100000 in
theorem dir_any (h : TIn w tb nb cap P E V M) {i : Nat} (hi : (M i).isSome = true) :
    Calls Tryz.prog 36 #[nptr (P i)] w fun e w' => e = .returned (.bool (isDir M i)) ∧ w' = w := by
  obtain ⟨nd, hm⟩ := Option.isSome_iff_exists.1 hi
  obtain ⟨b, hp, hb⟩ := h.at_ hm
  have hd := h.dirV hm
  have c1 := cell_blk_some hb (i := 1) rfl
  rw [hp, ← hd, show nptr (some b) = .pointer (some ⟨b, 0, none⟩) from rfl]
  clear h hm hb hi hd hp
  have hne := fun o => run_neq_map_nil (P := Tryz.prog) w 69 9 68 o Tryz.underlying69
  cases hE : E i with
  | none =>
    rw [hE] at c1
    have hne := hne none
    go_enter Tryz.func36, Tryz.ntmps36
    go_wp2_with fail
    go_ret
    exact ⟨rfl, rfl⟩
  | some eb =>
    rw [hE] at c1
    have hne := hne (some eb)
    go_enter Tryz.func36, Tryz.ntmps36
    go_wp2_with fail
    go_ret
    exact ⟨rfl, rfl⟩
/-- What is answered: a node's place and no error, or nothing and an error. -/
def leadV (P : Nat → Option Nat) : Nat ⊕ Int → Value
  | .inl i => .tuple #[nptr (P i), .int .i64 0]
  | .inr e => .tuple #[.pointer none, .int .i64 e]
theorem lead_step {M : TM} {i : Nat} {s : ByteArray} {l : List ByteArray} : leadN M i (s :: l) = if isDir M i then (match entN M i s with | some j => leadN M j l | none => .inr 2) else .inr 20 := rfl
set_option maxHeartbeats 2000000 in
set_option maxRecDepth 100000 in
theorem lead_any {B : Nat} {v : Value} {l : List ByteArray} (h : TIn w tb nb cap P E V M) (hv : StrsAt B w v l) (hl : l.length ≤ 1000) :
    Calls Tryz.prog 63 #[.pointer (some ⟨tb, 0, none⟩), v] w fun e w' => e = .returned (leadV P (leadN M 2 l)) ∧ w' = w := by
  obtain ⟨cs, hr, hz, hcs⟩ := h.row
  obtain ⟨nd2, hm2⟩ := Option.isSome_iff_exists.1 h.ok.root_there
  have h2c := (h.ok.low 2 nd2 hm2).2
  obtain ⟨b2, hp2, hb2⟩ := h.at_ hm2
  have c0 := cell_blk_some h.top (i := 0) rfl
  have c2 := cell_blk_some hr (hcs 2 h2c)
  rw [hp2] at c2
  have HT := Lib.hid h
  have hcap : (2 : Int) < (cap : Int) := by omega
  obtain ⟨va, vc, rfl⟩ : ∃ a c, v = .slice a l.length c := hv.shape
  have HV := Lib.hid hv
  have hl' : ((l.length : Nat) : Int) ≤ 1000 := by omega
  have HP2 := Lib.hid hp2
  clear hr hz hcs h hb2 hv hp2
  go_enter Tryz.func63, Tryz.ntmps63
  unfold nptr at c2
  go_wp2_with fail
  go_loop [6, 18] (fun at_ idx => ∃ (k : Nat) (i : Nat), k ≤ l.length ∧ idx = .int .i64 k ∧ at_ = nptr (P i) ∧ (M i).isSome = true ∧ leadN M 2 l = leadN M i (l.drop k)) (fun _ idx => l.length - (RowKit.intOf idx).toNat)
  case atStart => exact ⟨0, 2, by omega, rfl, by rw [HP2.out]; rfl, by rw [hm2]; rfl, by rw [List.drop_zero]⟩
  case round =>
    obtain ⟨k, i, hk, rfl, rfl, hi, hld⟩ := hrel
    have HLD := Lib.hid hld
    clear hld
    by_cases hkl : k < l.length
    · obtain ⟨s, hs⟩ : ∃ s, l[k]? = some s := ⟨_, List.getElem?_eq_getElem hkl⟩
      have hdrop : l.drop k = s :: l.drop (k + 1) := by
        obtain ⟨hl', rfl⟩ := List.getElem?_eq_some_iff.1 hs
        rw [List.drop_eq_getElem_cons hl']
      have hstep : leadN M 2 l = if isDir M i then (match entN M i s with | some j => leadN M j (l.drop (k + 1)) | none => .inr 2) else .inr 20 := by rw [HLD.out, hdrop, lead_step]
      have HSTEP := Lib.hid hstep
      obtain ⟨nd, hm⟩ := Option.isSome_iff_exists.1 hi
      obtain ⟨b, hp, hb⟩ := HT.out.at_ hm
      have HD := Lib.hid (dir_any HT.out hi)
      rw [hp] at HD ⊢
      rcases HV.out with ⟨h0, _⟩ | ⟨g, o, c, he, hlc, _, _, hcell⟩
      · rw [h0] at hkl; simp at hkl
      · injection he with e1 _ e3
        subst e1 e3
        have k0 := hcell k s hs
        have b0 : (0 : Int) ≤ (k : Int) := by omega
        have b1 : (k : Int) < (l.length : Int) := by omega
        have ce := cell_blk_some hb (i := 1) rfl
        clear hcell hdrop hstep hs
        cases hdd : isDir M i with
        | false =>
          have HR : Hid (leadN M 2 l = .inr 20) := Lib.hid (by rw [HSTEP.out, hdd]; rfl)
          rw [hdd] at HD
          clear HSTEP hb ce
          unfold nptr
          go_wp2_with fail
          refine HD.out.mono ?_
          rintro e w1 ⟨rfl, rfl⟩
          go_wp2_with fail
          go_ret2
          exact ⟨by rw [HR.out]; rfl, rfl⟩
        | true =>
          obtain ⟨eb, he, hlk⟩ := HT.out.look hm (by have := HT.out.dirV hm; rw [hdd] at this; rw [← HT.out.isD hm]; exact this) s
          rw [he] at ce
          rw [hdd] at HD
          cases hen : entN M i s with
          | none =>
            have HR : Hid (leadN M 2 l = .inr 2) := Lib.hid (by rw [HSTEP.out, hdd, hen]; rfl)
            rw [hen] at hlk
            clear HSTEP hb
            unfold nptr at hlk ⊢
            go_wp2_with fail
            refine HD.out.mono ?_
            rintro e w1 ⟨rfl, rfl⟩
            go_wp2_with fail
            go_ret2
            exact ⟨by rw [HR.out]; rfl, rfl⟩
          | some j =>
            have HR : Hid (leadN M 2 l = leadN M j (l.drop (k + 1))) := Lib.hid (by rw [HSTEP.out, hdd, hen]; rfl)
            have hj := HT.out.ok.ent i s j hen
            obtain ⟨ndj, hmj⟩ := Option.isSome_iff_exists.1 hj
            obtain ⟨bj, hpj, _⟩ := HT.out.at_ hmj
            rw [hen] at hlk
            have hlk' : (Instr.lookup 69 (.map (some eb)) (.string s) false).run Tryz.prog w = .ok (.pointer (some ⟨bj, 0, none⟩)) w := by
              rw [hlk]
              show Result.ok (nptr (P j)) w = _
              rw [hpj]; rfl
            have HPJ := Lib.hid hpj
            clear HSTEP hb hlk hmj
            unfold nptr
            go_wp2_with fail
            refine HD.out.mono ?_
            rintro e w1 ⟨rfl, rfl⟩
            go_wp2_with fail
            go_roundw
            case rel => exact ⟨k + 1, j, by omega, by go_num, by rw [HPJ.out]; rfl, hj, HR.out⟩
            case measure => simp only [RowKit.intOf]; omega
    · obtain rfl : k = l.length := by omega
      have HR : Hid (leadN M 2 l = .inl i) := Lib.hid (by rw [HLD.out, List.drop_length]; rfl)
      obtain ⟨nd, hm⟩ := Option.isSome_iff_exists.1 hi
      obtain ⟨b, hp, hb⟩ := HT.out.at_ hm
      have HP := Lib.hid hp
      rw [hp]
      clear hb hp
      unfold nptr
      go_wp2_with fail
      go_ret2
      exact ⟨by rw [show leadV P (leadN M 2 l) = .tuple #[.pointer (some ⟨b, 0, none⟩), .int .i64 0] by rw [HR.out]; show Value.tuple #[nptr (P i), _] = _; rw [HP.out]; rfl]; rfl, rfl⟩
end
end Go.Proofs.YtoofcnehoffllaaGreat

namespace Go.Proofs.YtoofcnehoffllaaGreat
open Go.RowKit

section
variable {w : World} {tb nb cap : Nat} {P E : Nat → Option Nat} {V : Nat → Value} {M : TM}
theorem look_there (h : TIn w tb nb cap P E V M) {l : List ByteArray} {i : Nat} (hl : leadN M 2 l = .inl i) : (M i).isSome = true := lead_there h.ok l 2 i h.ok.root_there hl
set_option maxHeartbeats 2000000 in
set_option maxRecDepth 100000 in
theorem look_any (h : TIn w tb nb cap P E V M) (s : ByteArray) (hs : s.size ≤ 1000000) :
    Calls Tryz.prog 35 #[.pointer (some ⟨tb, 0, none⟩), .string s] w fun e w' => e = .returned (leadV P (lookN M s)) ∧ Below w.heap.size w w' := by
  have HT := Lib.hid h
  have HS := Lib.hid (split_any s hs w)
  have hct := splitN_count s
  have HCT := Lib.hid hct
  have hlk : lookN M s = if splitE s ≠ 0 then .inr (splitE s) else match leadN M 2 (splitN s) with
    | .inr e => .inr e
    | .inl i => if splitD s && !isDir M i then .inr 20 else .inl i := rfl
  have HLK := Lib.hid hlk
  clear h hs hct hlk
  by_cases hE : splitE s = 0
  · unfold SplitPost at HS
    have HE := Lib.hid hE
    rw [hE] at HS
    clear hE
    go_enter Tryz.func35, Tryz.ntmps35
    go_wp2_with fail
    refine HS.out.mono ?_
    rintro e w1 ⟨v, rfl, hst, hb1⟩
    have HL := Lib.hid (lead_any (HT.out.below hb1) hst HCT.out)
    have H1 := Lib.hid (HT.out.below hb1); have HB1 := Lib.hid hb1
    clear hst hb1 HS
    go_wp2_with fail
    refine HL.out.mono ?_
    rintro e w2 ⟨rfl, rfl⟩
    cases hq : leadN M 2 (splitN s) with
    | inr c =>
      have hr : lookN M s = .inr c := by rw [HLK.out, if_neg (by rw [HE.out]; simp), hq]
      have hc : c ≠ 0 := lead_code hq
      have HR := Lib.hid hr
      have c1 : (c == 0) = false := by simp [hc]
      clear hr hc HLK HL
      generalize splitD s = dd
      unfold leadV
      cases dd
      all_goals
        go_wp2_with fail
        go_ret2
        exact ⟨by rw [HR.out]; rfl, HB1.out⟩
    | inl i =>
      have hi := look_there H1.out hq
      have HD := Lib.hid (dir_any H1.out hi)
      have hr : lookN M s = if splitD s && !isDir M i then .inr 20 else .inl i := by rw [HLK.out, if_neg (by rw [HE.out]; simp), hq]
      obtain ⟨ndi, hmi⟩ := Option.isSome_iff_exists.1 hi
      obtain ⟨bi, hpi, _⟩ := H1.out.at_ hmi
      rw [hpi] at HD
      have HV : Hid (∀ r, r = .inl i → leadV P r = .tuple #[.pointer (some ⟨bi, 0, none⟩), .int .i64 0]) := Lib.hid fun r hr => by rw [hr]; show Value.tuple #[nptr (P i), _] = _; rw [hpi]; rfl
      rw [HV.out _ rfl]
      have HR := Lib.hid hr
      clear hr HLK HL hmi hpi
      generalize splitD s = dd at *
      generalize isDir M i = di at *
      unfold nptr at HD
      cases dd
      · have HR2 : Hid (leadV P (lookN M s) = .tuple #[.pointer (some ⟨bi, 0, none⟩), .int .i64 0]) := Lib.hid (HV.out _ (by rw [HR.out]; rfl))
        clear HR HV
        go_wp2_with fail
        go_ret2
        exact ⟨by rw [HR2.out]; rfl, HB1.out⟩
      · cases di
        · have HR2 : Hid (lookN M s = .inr 20) := Lib.hid (by rw [HR.out]; rfl)
          clear HR HV
          go_wp2_with fail
          refine HD.out.mono ?_
          rintro e w3 ⟨rfl, rfl⟩
          go_wp2_with fail
          go_ret2
          exact ⟨by rw [HR2.out]; rfl, HB1.out⟩
        · have HR2 : Hid (leadV P (lookN M s) = .tuple #[.pointer (some ⟨bi, 0, none⟩), .int .i64 0]) := Lib.hid (HV.out _ (by rw [HR.out]; rfl))
          clear HR HV
          go_wp2_with fail
          refine HD.out.mono ?_
          rintro e w3 ⟨rfl, rfl⟩
          go_wp2_with fail
          go_ret2
          exact ⟨by rw [HR2.out]; rfl, HB1.out⟩
  · have hr : lookN M s = .inr (splitE s) := by rw [HLK.out, if_pos hE]
    have HR := Lib.hid hr
    unfold SplitPost at HS
    generalize splitE s = ec at *
    have c1 : (ec != 0) = true := by simp [hE]
    clear hr HLK hE
    go_enter Tryz.func35, Tryz.ntmps35
    go_wp2_with fail
    refine HS.out.mono ?_
    rintro e w1 ⟨v, rfl, hst, hb1⟩
    have HB1 := Lib.hid hb1
    clear hst hb1 HS
    go_wp2_with fail
    go_ret2
    exact ⟨by rw [HR.out]; rfl, HB1.out⟩
end
end Go.Proofs.YtoofcnehoffllaaGreat

namespace Go.Proofs.YtoofcnehoffllaaGreat
open Go.RowKit

section
variable {w : World} {tb nb cap : Nat} {P E : Nat → Option Nat} {V : Nat → Value} {M : TM}
theorem look_isin (h : TIn w tb nb cap P E V M) {s : ByteArray} {i : Nat} (hl : lookN M s = .inl i) : (M i).isSome = true := by
  unfold lookN at hl
  split at hl
  · cases hl
  · cases hq : leadN M 2 (splitN s) with
    | inr c => rw [hq] at hl; cases hl
    | inl j =>
      rw [hq] at hl
      dsimp only at hl
      split at hl
      · cases hl
      · injection hl with hl
        rw [← hl]; exact look_there h hq
theorem look_code {s : ByteArray} {c : Int} (hl : lookN M s = .inr c) : c ≠ 0 := by
  unfold lookN at hl
  split at hl
  · rename_i hh
    injection hl with hl
    rw [← hl]; exact hh
  · cases hq : leadN M 2 (splitN s) with
    | inr e =>
      rw [hq] at hl
      injection hl with hl
      rw [← hl]; exact lead_code hq
    | inl j =>
      rw [hq] at hl
      dsimp only at hl
      split at hl
      · injection hl with hl; omega
      · cases hl
/-- What a file's path leads to: where it is a directory, that is answered beside the error. -/
def fileV (P : Nat → Option Nat) (M : TM) (s : ByteArray) : Value := match lookN M s with
  | .inr e => .tuple #[.pointer none, .int .i64 e]
  | .inl i => if isDir M i then .tuple #[.pointer none, .int .i64 21] else .tuple #[nptr (P i), .int .i64 0]
set_option maxHeartbeats 2000000 in
set_option maxRecDepth 100000 in
theorem file_any (h : TIn w tb nb cap P E V M) (s : ByteArray) (hs : s.size ≤ 1000000) :
    Calls Tryz.prog 32 #[.pointer (some ⟨tb, 0, none⟩), .string s] w fun e w' => e = .returned (fileV P M s) ∧ Below w.heap.size w w' := by
  have HT := Lib.hid h
  have HK := Lib.hid (look_any h s hs)
  have HV : Hid (fileV P M s = match lookN M s with
    | .inr e => .tuple #[.pointer none, .int .i64 e]
    | .inl i => if isDir M i then .tuple #[.pointer none, .int .i64 21] else .tuple #[nptr (P i), .int .i64 0]) := Lib.hid rfl
  clear h hs
  cases hq : lookN M s with
  | inr c =>
    have hc := look_code hq
    have c1 : (c == 0) = false := by simp [hc]
    rw [hq] at HK HV
    clear hc hq
    unfold leadV at HK
    go_enter Tryz.func32, Tryz.ntmps32
    go_wp2_with fail
    refine HK.out.mono ?_
    rintro e w1 ⟨rfl, hb1⟩
    have HB1 := Lib.hid hb1
    clear hb1 HK
    go_wp2_with fail
    go_ret2
    exact ⟨by rw [HV.out]; rfl, HB1.out⟩
  | inl i =>
    have hi := look_isin HT.out hq
    obtain ⟨ndi, hmi⟩ := Option.isSome_iff_exists.1 hi
    obtain ⟨bi, hpi, _⟩ := HT.out.at_ hmi
    have HD : Hid (∀ w1, Below w.heap.size w w1 → Calls Tryz.prog 36 #[.pointer (some ⟨bi, 0, none⟩)] w1 fun e w' => e = .returned (.bool (isDir M i)) ∧ w' = w1) := Lib.hid fun w1 hb => by
      have := dir_any (HT.out.below hb) hi
      rw [hpi] at this
      exact this
    rw [hq, show leadV P (.inl i) = .tuple #[.pointer (some ⟨bi, 0, none⟩), .int .i64 0] by show Value.tuple #[nptr (P i), _] = _; rw [hpi]; rfl] at HK
    rw [hq] at HV
    have hv2 : fileV P M s = if isDir M i then .tuple #[.pointer none, .int .i64 21] else .tuple #[.pointer (some ⟨bi, 0, none⟩), .int .i64 0] := by
      rw [HV.out]
      show (if isDir M i then _ else Value.tuple #[nptr (P i), _]) = _
      rw [hpi]; rfl
    have HV2 := Lib.hid hv2
    clear HV hv2 hmi hpi hi hq
    generalize isDir M i = di at *
    go_enter Tryz.func32, Tryz.ntmps32
    go_wp2_with fail
    refine HK.out.mono ?_
    rintro e w1 ⟨rfl, hb1⟩
    have HB1 := Lib.hid hb1
    have HD1 := Lib.hid (HD.out w1 hb1)
    clear hb1 HK HD
    cases di
    · go_wp2_with fail
      refine HD1.out.mono ?_
      rintro e w2 ⟨rfl, rfl⟩
      go_wp2_with fail
      go_ret2
      exact ⟨by rw [HV2.out]; rfl, HB1.out⟩
    · go_wp2_with fail
      refine HD1.out.mono ?_
      rintro e w2 ⟨rfl, rfl⟩
      go_wp2_with fail
      go_ret2
      exact ⟨by rw [HV2.out]; rfl, HB1.out⟩
theorem take_snoc {α : Type} {l : List α} {k : Nat} {x : α} (h : l[k]? = some x) : l.take (k + 1) = l.take k ++ [x] := by
  obtain ⟨hl, rfl⟩ := List.getElem?_eq_some_iff.1 h
  exact List.take_succ_eq_append_getElem hl
/-- How many bytes the path of names has. -/
def longN (l : List ByteArray) : Int := (l.map fun s => 1 + (s.size : Int)).sum
theorem longN_snoc (l : List ByteArray) (s : ByteArray) : longN (l ++ [s]) = longN l + (1 + s.size) := by unfold longN; rw [List.map_append, List.sum_append]; simp
theorem longN_bd (l : List ByteArray) (h : ∀ s ∈ l, s.size ≤ 1000000) : 0 ≤ longN l ∧ longN l ≤ 1000001 * l.length := by
  induction l with
  | nil => simp [longN]
  | cons s l ih =>
    have h1 := ih fun x hx => h x (List.mem_cons_of_mem _ hx)
    have h2 := h s List.mem_cons_self
    have h3 : longN (s :: l) = 1 + (s.size : Int) + longN l := by unfold longN; rw [List.map_cons, List.sum_cons]
    rw [h3, List.length_cons]
    omega
set_option maxHeartbeats 2000000 in
set_option maxRecDepth 100000 in
theorem long_any {B : Nat} {v : Value} {l : List ByteArray} {w : World} (hv : StrsAt B w v l) (hl : l.length ≤ 1000) (hs : ∀ s ∈ l, s.size ≤ 1000000) :
    Calls Tryz.prog 85 #[v] w fun e w' => e = .returned (.int .i64 (longN l)) ∧ w' = w := by
  obtain ⟨va, vc, rfl⟩ := hv.shape
  have HV := Lib.hid hv; have HS := Lib.hid hs
  have hl' : ((l.length : Nat) : Int) ≤ 1000 := by omega
  clear hv hs
  go_enter Tryz.func85, Tryz.ntmps85
  go_wp2_with fail
  go_loop [3, 8] (fun n idx => ∃ k : Nat, k ≤ l.length ∧ idx = .int .i64 k ∧ n = .int .i64 (longN (l.take k))) (fun _ idx => l.length - (RowKit.intOf idx).toNat)
  case atStart => exact ⟨0, by omega, rfl, rfl⟩
  case round =>
    obtain ⟨k, hk, rfl, rfl⟩ := hrel
    by_cases hkl : k < l.length
    · obtain ⟨s, hs⟩ : ∃ s, l[k]? = some s := ⟨_, List.getElem?_eq_getElem hkl⟩
      have hsz := HS.out s (List.mem_of_getElem? hs)
      have hbd := longN_bd (l.take k) fun x hx => HS.out x (List.mem_of_mem_take hx)
      rw [List.length_take, Nat.min_eq_left hk] at hbd
      have hsn : longN (l.take (k + 1)) = longN (l.take k) + (1 + s.size) := by rw [take_snoc hs, longN_snoc]
      have HSN := Lib.hid hsn
      rcases HV.out with ⟨h0, _⟩ | ⟨g, o, c, he, hlc, _, _, hcell⟩
      · rw [h0] at hkl; simp at hkl
      · injection he with e1 _ e3
        subst e1 e3
        have k0 := hcell k s hs
        have b0 : (0 : Int) ≤ (k : Int) := by omega
        have b1 : (k : Int) < (l.length : Int) := by omega
        obtain ⟨z0, z1⟩ := hbd
        have z2 : longN (l.take k) ≤ 2000000000 := by omega
        have w1 : IntKind.i64.wrap (1 + (s.size : Int)) = 1 + (s.size : Int) := IntWalk.i64_in _ (by omega)
        have w2 : IntKind.i64.wrap (longN (l.take k) + (1 + (s.size : Int))) = longN (l.take k) + (1 + (s.size : Int)) := IntWalk.i64_in _ (by omega)
        clear hcell hs hsn z1 hsz
        go_wp2_with fail
        go_roundw
        case rel => exact ⟨k + 1, by omega, by go_num, by rw [HSN.out]⟩
        case measure => simp only [RowKit.intOf]; omega
    · obtain rfl : k = l.length := by omega
      rw [List.take_length]
      go_wp2_with fail
      go_ret
      exact ⟨rfl, rfl⟩
end
end Go.Proofs.YtoofcnehoffllaaGreat

namespace Go.Proofs.YtoofcnehoffllaaGreat
open Go.RowKit

theorem elStr : ElT Tryz.prog 54 9 1 16 (.string ⟨#[]⟩) := ⟨Tryz.underlying54, by kernel_rfl, by kernel_rfl, by decide⟩
theorem srcS (w : World) (s : ByteArray) : SrcG 1 (w.alloc (.cells #[.string s] 9)) (.slice (some ⟨w.heap.size, 0, none⟩) 1 1) 1 [.string s] :=
  SrcG.block (blk_new rfl) rfl (fun u hu => by rw [List.mem_singleton] at hu; rw [hu]; rfl)
/-- The place of a path: parent, name, whether of a directory, length. -/
def placeA (p : Value) (last : ByteArray) (of_ : Bool) (long : Int) : Value := .agg #[p, .string last, .bool of_, .int .i64 long]
def placeV (P : Nat → Option Nat) (M : TM) (s : ByteArray) : Value :=
  if parE s ≠ 0 then .tuple #[placeA (.pointer none) ⟨#[]⟩ false 0, .int .i64 (parE s)] else match leadN M 2 (parN s) with
    | .inr c => .tuple #[placeA (.pointer none) (parL s) (splitD s) (longN (parN s ++ [parL s])), .int .i64 c]
    | .inl p => .tuple #[placeA (nptr (P p)) (parL s) (splitD s) (longN (parN s ++ [parL s])), .int .i64 (if isDir M p then 0 else 20)]
theorem parN_count (s : ByteArray) : (parN s).length ≤ 999 := by
  have := splitN_count s
  unfold parN
  split
  · rw [List.length_take]; omega
  · simp
theorem splitN_size (s x : ByteArray) (h : x ∈ splitN s) : x.size ≤ s.size := by
  unfold splitN at h
  split at h
  · exact splitL_size s x h
  · cases h
theorem parN_size (s x : ByteArray) (h : x ∈ parN s) : x.size ≤ s.size := by
  unfold parN at h
  split at h
  · exact splitN_size s x (List.mem_of_mem_take h)
  · cases h
theorem parL_size (s : ByteArray) : (parL s).size ≤ s.size := by
  unfold parL
  split
  · rw [List.getD_eq_getElem?_getD]
    cases hq : (splitN s)[(splitN s).length - 1]? with
    | none => exact Nat.zero_le _
    | some x => exact splitN_size s x (List.mem_of_getElem? hq)
  · exact Nat.zero_le _
section
variable {w : World} {tb nb cap : Nat} {P E : Nat → Option Nat} {V : Nat → Value} {M : TM}
set_option maxHeartbeats 4000000 in
set_option maxRecDepth 100000 in
theorem place_any (h : TIn w tb nb cap P E V M) (s : ByteArray) (hs : s.size ≤ 1000000) :
    Calls Tryz.prog 75 #[.pointer (some ⟨tb, 0, none⟩), .string s] w fun e w' => e = .returned (placeV P M s) ∧ Below w.heap.size w w' := by
  have HT := Lib.hid h; have HSZ := Lib.hid hs
  have hb0 : Below w.heap.size w (w.alloc (.cells #[.pointer none, .string ⟨#[]⟩, .bool false, .int .i64 0] 102)) := (Below.refl _ w).alloc (Nat.le_refl _) _
  have HB0 := Lib.hid hb0
  have OB : Hid ((w.alloc (.cells #[.pointer none, .string ⟨#[]⟩, .bool false, .int .i64 0] 102)).heap[w.heap.size]? = some (.cells #[.pointer none, .string ⟨#[]⟩, .bool false, .int .i64 0] 102 (0, 0))) := Lib.hid (blk_new rfl)
  have HP := Lib.hid (parent_any s hs (w.alloc (.cells #[.pointer none, .string ⟨#[]⟩, .bool false, .int .i64 0] 102)))
  have HV : Hid (placeV P M s = if parE s ≠ 0 then .tuple #[placeA (.pointer none) ⟨#[]⟩ false 0, .int .i64 (parE s)] else match leadN M 2 (parN s) with
    | .inr c => .tuple #[placeA (.pointer none) (parL s) (splitD s) (longN (parN s ++ [parL s])), .int .i64 c]
    | .inl p => .tuple #[placeA (nptr (P p)) (parL s) (splitD s) (longN (parN s ++ [parL s])), .int .i64 (if isDir M p then 0 else 20)]) := Lib.hid rfl
  clear h hb0
  by_cases hE : parE s = 0
  · have HE := Lib.hid hE
    unfold ParPost at HP
    rw [hE] at HP
    clear hE
    go_enter Tryz.func75, Tryz.ntmps75
    go_wp2_with fail
    generalize w.alloc (.cells #[.pointer none, .string ⟨#[]⟩, .bool false, .int .i64 0] 102) = w0 at *
    refine HP.out.mono ?_
    rintro e w1 ⟨v, rfl, hst, hb1, hown⟩
    obtain ⟨va, vc, rfl⟩ := hst.shape
    have HB1 := Lib.hid (below_call HB0.out hb1 (Nat.le_refl _))
    have OB1 := Lib.hid ((hb1.block _ (blk_lt OB.out)).trans OB.out)
    have HS := Lib.hid (split_any s hs w1)
    have HST := Lib.hid hst; have HO := Lib.hid hown; have HQ1 := Lib.hid hb1; have OB0 := Lib.hid OB.out
    clear hst hb1 hown HP OB
    unfold SplitPost at HS
    go_wp2_with fail
    refine HS.out.mono ?_
    rintro e w2 ⟨v2, rfl, _, hb2⟩
    have HB2 := Lib.hid (below_call HB1.out hb2 (Nat.le_refl _))
    have OB2 := Lib.hid ((hb2.block _ (blk_lt OB1.out)).trans OB1.out)
    have HST2 := Lib.hid (HST.out.below hb2)
    have HO2 := Lib.hid (own_frame HO.out (S := fun _ => False) (Fr.below hb2) fun _ _ => id)
    have HL := Lib.hid (lead_any (HT.out.below HB2.out) HST2.out (by have := parN_count s; omega))
    have HQ2 := Lib.hid hb2
    clear hb2 HS HST HO OB1
    go_wp2_with fail
    refine HL.out.mono ?_
    rintro e w3 ⟨rfl, rfl⟩
    have hb03 : Below w0.heap.size w0 w3 := below_call (below_call (Below.refl _ w0) HQ1.out (Nat.le_refl _)) HQ2.out (Nat.le_refl _)
    have HBZ := Lib.hid hb03
    have HB3 := Lib.hid hb03.size
    cases hq : leadN M 2 (parN s) with
    | inr c =>
      have hc := lead_code hq
      have c1 : (c == 0) = false := by simp [hc]
      have hr : placeV P M s = .tuple #[placeA (.pointer none) (parL s) (splitD s) (longN (parN s ++ [parL s])), .int .i64 c] := by rw [HV.out, if_neg (by rw [HE.out]; simp), hq]
      have HR := Lib.hid hr
      clear hr hc HV hb03 hq
      unfold leadV
      dsimp only
      have OW := Lib.hid (own_frame HO2.out (S := fun _ => False) ((Fr.refl _ w3).alloc (.cells #[.string (parL s)] 9)) fun _ _ => id)
      have hzz : w.heap.size ≤ (w3.alloc (.cells #[.string (parL s)] 9)).heap.size := by have := HB2.out.size; simp; omega
      have hzz0 : w0.heap.size ≤ (w3.alloc (.cells #[.string (parL s)] 9)).heap.size := by have := HB3.out; simp; omega
      go_wp2_with (refine wpList_append_g (by rfl) (.tmp 45) (.tmp 47) (by rfl) elStr (by rfl) OW.out (by rfl) (srcS w3 (parL s)) (by unfold maxLen; have := parN_count s; omega) (by have := parN_count s; omega) hzz0 ?_)
      intro v5 w5 ho5 hf5 hv5
      have hown5 : w5.ownsRow w0.heap.size 9 1 v5 (parN s ++ [parL s]).length ((parN s ++ [parL s]).map Value.string) := by
        rw [List.length_append, List.length_singleton, List.map_append]
        exact ho5
      have hb5 : Below w0.heap.size w0 w5 := (HBZ.out.alloc HB3.out _).trans (hf5.toBelow hzz0 fun x hx => (HO2.out.lt _ hx).1)
      have hst5 := StrsAt.own hown5
      obtain ⟨ga, gc, rfl⟩ := own_shape ho5
      have HLG := Lib.hid (long_any hst5 (by rw [List.length_append, List.length_singleton]; have := parN_count s; omega) (fun x hx => by
        rcases List.mem_append.1 hx with hx | hx
        · exact Nat.le_trans (parN_size s x hx) HSZ.out
        · rw [List.mem_singleton.1 hx]; exact Nat.le_trans (parL_size s) HSZ.out))
      have OB5 := Lib.hid ((hb5.block _ (blk_lt OB0.out)).trans OB0.out)
      have BW := Lib.hid (HB0.out.trans (hb5.mono HB0.out.size))
      clear ho5 hf5 hv5 hown5 hb5 hst5 OW HO2 HL HST2 hzz hzz0 OB2
      have c0 := cell_blk_some OB5.out (i := 0) rfl
      have c1 := cell_blk_some OB5.out (i := 1) rfl
      have c2 := cell_blk_some OB5.out (i := 2) rfl
      have c3 := cell_blk_some OB5.out (i := 3) rfl
      have f0 := free_blk (i := 0) OB5.out
      have f1 := free_blk (i := 1) OB5.out
      have f2 := free_blk (i := 2) OB5.out
      have f3 := free_blk (i := 3) OB5.out
      go_wp2_with fail
      refine HLG.out.mono ?_
      rintro e w6 ⟨rfl, rfl⟩
      go_wp2_with fail
      have hfin := blk_set (i := 3) (blk_set (i := 2) (blk_set (i := 1) (blk_set (i := 0) OB5.out (.pointer none)) (.string (parL s))) (.bool (splitD s))) (.int .i64 (longN (parN s ++ [parL s])))
      refine bodyPost_ret (results_row_tmp rfl _ _ w.heap.size _ _ _ _ rfl hfin Tryz.underlying102 rfl (by kernel_rfl)) rfl ?_
      exact ⟨by rw [HR.out]; rfl, (((BW.out.setCell (Nat.le_refl _) _).setCell (Nat.le_refl _) _).setCell (Nat.le_refl _) _).setCell (Nat.le_refl _) _⟩
    | inl p =>
      have hi := look_there (HT.out.below HB2.out) hq
      obtain ⟨ndi, hmi⟩ := Option.isSome_iff_exists.1 hi
      obtain ⟨bi, hpi, _⟩ := HT.out.at_ hmi
      have HD : Hid (Calls Tryz.prog 36 #[.pointer (some ⟨bi, 0, none⟩)] w3 fun e w' => e = .returned (.bool (isDir M p)) ∧ w' = w3) := Lib.hid (by
        have := dir_any (HT.out.below HB2.out) hi
        rw [hpi] at this
        exact this)
      have hr : placeV P M s = .tuple #[placeA (.pointer (some ⟨bi, 0, none⟩)) (parL s) (splitD s) (longN (parN s ++ [parL s])), .int .i64 (if isDir M p then 0 else 20)] := by
        rw [HV.out, if_neg (by rw [HE.out]; simp), hq]
        show Value.tuple #[placeA (nptr (P p)) _ _ _, _] = _
        rw [hpi]; rfl
      rw [show leadV P (.inl p) = .tuple #[.pointer (some ⟨bi, 0, none⟩), .int .i64 0] by show Value.tuple #[nptr (P p), _] = _; rw [hpi]; rfl]
      have HR := Lib.hid hr
      clear hr HV hb03 hq hmi hpi hi
      generalize isDir M p = di at *
      cases di
      · skip
        go_wp2_with fail
        refine HD.out.mono ?_
        rintro e w4 ⟨rfl, hw4⟩
        obtain rfl := hw4.symm
        have OW := Lib.hid (own_frame HO2.out (S := fun _ => False) ((Fr.refl _ w3).alloc (.cells #[.string (parL s)] 9)) fun _ _ => id)
        have hzz : w.heap.size ≤ (w3.alloc (.cells #[.string (parL s)] 9)).heap.size := by have := HB2.out.size; simp; omega
        have hzz0 : w0.heap.size ≤ (w3.alloc (.cells #[.string (parL s)] 9)).heap.size := by have := HB3.out; simp; omega
        go_wp2_with (refine wpList_append_g (by rfl) (.tmp 45) (.tmp 47) (by rfl) elStr (by rfl) OW.out (by rfl) (srcS w3 (parL s)) (by unfold maxLen; have := parN_count s; omega) (by have := parN_count s; omega) hzz0 ?_)
        intro v5 w5 ho5 hf5 hv5
        have hown5 : w5.ownsRow w0.heap.size 9 1 v5 (parN s ++ [parL s]).length ((parN s ++ [parL s]).map Value.string) := by
          rw [List.length_append, List.length_singleton, List.map_append]
          exact ho5
        have hb5 : Below w0.heap.size w0 w5 := (HBZ.out.alloc HB3.out _).trans (hf5.toBelow hzz0 fun x hx => (HO2.out.lt _ hx).1)
        have hst5 := StrsAt.own hown5
        obtain ⟨ga, gc, rfl⟩ := own_shape ho5
        have HLG := Lib.hid (long_any hst5 (by rw [List.length_append, List.length_singleton]; have := parN_count s; omega) (fun x hx => by
          rcases List.mem_append.1 hx with hx | hx
          · exact Nat.le_trans (parN_size s x hx) HSZ.out
          · rw [List.mem_singleton.1 hx]; exact Nat.le_trans (parL_size s) HSZ.out))
        have OB5 := Lib.hid ((hb5.block _ (blk_lt OB0.out)).trans OB0.out)
        have BW := Lib.hid (HB0.out.trans (hb5.mono HB0.out.size))
        clear ho5 hf5 hv5 hown5 hb5 hst5 OW HO2 HL HST2 hzz hzz0 OB2
        have c0 := cell_blk_some OB5.out (i := 0) rfl
        have c1 := cell_blk_some OB5.out (i := 1) rfl
        have c2 := cell_blk_some OB5.out (i := 2) rfl
        have c3 := cell_blk_some OB5.out (i := 3) rfl
        have f0 := free_blk (i := 0) OB5.out
        have f1 := free_blk (i := 1) OB5.out
        have f2 := free_blk (i := 2) OB5.out
        have f3 := free_blk (i := 3) OB5.out
        go_wp2_with fail
        refine HLG.out.mono ?_
        rintro e w6 ⟨rfl, rfl⟩
        go_wp2_with fail
        have hfin := blk_set (i := 3) (blk_set (i := 2) (blk_set (i := 1) (blk_set (i := 0) OB5.out (.pointer (some ⟨bi, 0, none⟩))) (.string (parL s))) (.bool (splitD s))) (.int .i64 (longN (parN s ++ [parL s])))
        refine bodyPost_ret (results_row_tmp rfl _ _ w.heap.size _ _ _ _ rfl hfin Tryz.underlying102 rfl (by kernel_rfl)) rfl ?_
        exact ⟨by rw [HR.out]; rfl, (((BW.out.setCell (Nat.le_refl _) _).setCell (Nat.le_refl _) _).setCell (Nat.le_refl _) _).setCell (Nat.le_refl _) _⟩
      · skip
        go_wp2_with fail
        refine HD.out.mono ?_
        rintro e w4 ⟨rfl, hw4⟩
        obtain rfl := hw4.symm
        have OW := Lib.hid (own_frame HO2.out (S := fun _ => False) ((Fr.refl _ w3).alloc (.cells #[.string (parL s)] 9)) fun _ _ => id)
        have hzz : w.heap.size ≤ (w3.alloc (.cells #[.string (parL s)] 9)).heap.size := by have := HB2.out.size; simp; omega
        have hzz0 : w0.heap.size ≤ (w3.alloc (.cells #[.string (parL s)] 9)).heap.size := by have := HB3.out; simp; omega
        go_wp2_with (refine wpList_append_g (by rfl) (.tmp 45) (.tmp 47) (by rfl) elStr (by rfl) OW.out (by rfl) (srcS w3 (parL s)) (by unfold maxLen; have := parN_count s; omega) (by have := parN_count s; omega) hzz0 ?_)
        intro v5 w5 ho5 hf5 hv5
        have hown5 : w5.ownsRow w0.heap.size 9 1 v5 (parN s ++ [parL s]).length ((parN s ++ [parL s]).map Value.string) := by
          rw [List.length_append, List.length_singleton, List.map_append]
          exact ho5
        have hb5 : Below w0.heap.size w0 w5 := (HBZ.out.alloc HB3.out _).trans (hf5.toBelow hzz0 fun x hx => (HO2.out.lt _ hx).1)
        have hst5 := StrsAt.own hown5
        obtain ⟨ga, gc, rfl⟩ := own_shape ho5
        have HLG := Lib.hid (long_any hst5 (by rw [List.length_append, List.length_singleton]; have := parN_count s; omega) (fun x hx => by
          rcases List.mem_append.1 hx with hx | hx
          · exact Nat.le_trans (parN_size s x hx) HSZ.out
          · rw [List.mem_singleton.1 hx]; exact Nat.le_trans (parL_size s) HSZ.out))
        have OB5 := Lib.hid ((hb5.block _ (blk_lt OB0.out)).trans OB0.out)
        have BW := Lib.hid (HB0.out.trans (hb5.mono HB0.out.size))
        clear ho5 hf5 hv5 hown5 hb5 hst5 OW HO2 HL HST2 hzz hzz0 OB2
        have c0 := cell_blk_some OB5.out (i := 0) rfl
        have c1 := cell_blk_some OB5.out (i := 1) rfl
        have c2 := cell_blk_some OB5.out (i := 2) rfl
        have c3 := cell_blk_some OB5.out (i := 3) rfl
        have f0 := free_blk (i := 0) OB5.out
        have f1 := free_blk (i := 1) OB5.out
        have f2 := free_blk (i := 2) OB5.out
        have f3 := free_blk (i := 3) OB5.out
        go_wp2_with fail
        refine HLG.out.mono ?_
        rintro e w6 ⟨rfl, rfl⟩
        go_wp2_with fail
        have hfin := blk_set (i := 3) (blk_set (i := 2) (blk_set (i := 1) (blk_set (i := 0) OB5.out (.pointer (some ⟨bi, 0, none⟩))) (.string (parL s))) (.bool (splitD s))) (.int .i64 (longN (parN s ++ [parL s])))
        refine bodyPost_ret (results_row_tmp rfl _ _ w.heap.size _ _ _ _ rfl hfin Tryz.underlying102 rfl (by kernel_rfl)) rfl ?_
        exact ⟨by rw [HR.out]; rfl, (((BW.out.setCell (Nat.le_refl _) _).setCell (Nat.le_refl _) _).setCell (Nat.le_refl _) _).setCell (Nat.le_refl _) _⟩
  · have hr : placeV P M s = .tuple #[placeA (.pointer none) ⟨#[]⟩ false 0, .int .i64 (parE s)] := by rw [HV.out, if_pos hE]
    have HR := Lib.hid hr
    unfold ParPost at HP
    generalize parE s = ec at *
    have c1 : (ec != 0) = true := by simp [hE]
    clear hr HV hE
    go_enter Tryz.func75, Tryz.ntmps75
    go_wp2_with fail
    generalize w.alloc (.cells #[.pointer none, .string ⟨#[]⟩, .bool false, .int .i64 0] 102) = w0 at *
    refine HP.out.mono ?_
    rintro e w1 ⟨v, rfl, hst, hb1, hown⟩
    obtain ⟨va, vc, rfl⟩ := hst.shape
    have HB1 := Lib.hid (below_call HB0.out hb1 (Nat.le_refl _))
    have ob1 := (hb1.block _ (blk_lt OB.out)).trans OB.out
    have OB1 := Lib.hid ob1
    have d0 := cell_blk_some ob1 (i := 0) rfl
    have d1 := cell_blk_some ob1 (i := 1) rfl
    have d2 := cell_blk_some ob1 (i := 2) rfl
    have d3 := cell_blk_some ob1 (i := 3) rfl
    have f0 := free_blk (i := 0) ob1
    have f1 := free_blk (i := 1) ob1
    have f2 := free_blk (i := 2) ob1
    have f3 := free_blk (i := 3) ob1
    clear hst hb1 hown HP OB ob1
    go_wp2_with fail
    have hfin := blk_set (i := 3) (blk_set (i := 2) (blk_set (i := 1) (blk_set (i := 0) OB1.out (.pointer none)) (.string ⟨#[]⟩)) (.bool false)) (.int .i64 0)
    refine bodyPost_ret (results_row_tmp rfl _ _ w.heap.size _ _ _ _ rfl hfin Tryz.underlying102 rfl (by kernel_rfl)) rfl ?_
    exact ⟨by rw [HR.out]; rfl, (((HB1.out.setCell (Nat.le_refl _) _).setCell (Nat.le_refl _) _).setCell (Nat.le_refl _) _).setCell (Nat.le_refl _) _⟩
end
end Go.Proofs.YtoofcnehoffllaaGreat
