/- Walks of tree's file, long, New. -/
import Derived.Test.YtoofcnehoffllaaT4
namespace Go.Proofs.Ytoofcnehoffllaa
open Go.RowKit

section
variable {w : World} {tb nb cap : Nat} {P E : Nat → Option Nat} {V : Nat → Value} {M : TM}
theorem look_isin (h : TIn w tb nb cap P E V M) {s : ByteArray} {i : Nat} (hl : lookN M s = .inl i) : (M i).isSome = true := by
  unfold lookN at hl
  split at hl
  · cases hl
  · cases hq : leadN M 2 (splitN s) with
    | inr c => rw [hq] at hl; cases hl
    | inl j =>
      rw [hq] at hl
      dsimp only at hl
      split at hl
      · cases hl
      · injection hl with hl
        rw [← hl]; exact look_there h hq
theorem look_code {s : ByteArray} {c : Int} (hl : lookN M s = .inr c) : c ≠ 0 := by
  unfold lookN at hl
  split at hl
  · rename_i hh
    injection hl with hl
    rw [← hl]; exact hh
  · cases hq : leadN M 2 (splitN s) with
    | inr e =>
      rw [hq] at hl
      injection hl with hl
      rw [← hl]; exact lead_code hq
    | inl j =>
      rw [hq] at hl
      dsimp only at hl
      split at hl
      · injection hl with hl; omega
      · cases hl
/-- What a file's path leads to: where it is a directory, that is answered beside the error. -/
def fileV (P : Nat → Option Nat) (M : TM) (s : ByteArray) : Value := match lookN M s with
  | .inr e => .tuple #[.pointer none, .int .i64 e]
  | .inl i => if isDir M i then .tuple #[.pointer none, .int .i64 21] else .tuple #[nptr (P i), .int .i64 0]
set_option maxHeartbeats 2000000 in
set_option maxRecDepth 100000 in
theorem file_any (h : TIn w tb nb cap P E V M) (s : ByteArray) (hs : s.size ≤ 1000000) :
    Calls Try.prog 38 #[.pointer (some ⟨tb, 0, none⟩), .string s] w fun e w' => e = .returned (fileV P M s) ∧ Below w.heap.size w w' := by
  have HT := Lib.hid h
  have HK := Lib.hid (look_any h s hs)
  have HV : Hid (fileV P M s = match lookN M s with
    | .inr e => .tuple #[.pointer none, .int .i64 e]
    | .inl i => if isDir M i then .tuple #[.pointer none, .int .i64 21] else .tuple #[nptr (P i), .int .i64 0]) := Lib.hid rfl
  clear h hs
  cases hq : lookN M s with
  | inr c =>
    have hc := look_code hq
    have c1 : (c == 0) = false := by simp [hc]
    rw [hq] at HK HV
    clear hc hq
    unfold leadV at HK
    go_enter Try.func38, Try.ntmps38
    go_wp2_with fail
    refine HK.out.mono ?_
    rintro e w1 ⟨rfl, hb1⟩
    have HB1 := Lib.hid hb1
    clear hb1 HK
    go_wp2_with fail
    go_ret2
    exact ⟨by rw [HV.out]; rfl, HB1.out⟩
  | inl i =>
    have hi := look_isin HT.out hq
    obtain ⟨ndi, hmi⟩ := Option.isSome_iff_exists.1 hi
    obtain ⟨bi, hpi, _⟩ := HT.out.at_ hmi
    have HD : Hid (∀ w1, Below w.heap.size w w1 → Calls Try.prog 32 #[.pointer (some ⟨bi, 0, none⟩)] w1 fun e w' => e = .returned (.bool (isDir M i)) ∧ w' = w1) := Lib.hid fun w1 hb => by
      have := dir_any (HT.out.below hb) hi
      rw [hpi] at this
      exact this
    rw [hq, show leadV P (.inl i) = .tuple #[.pointer (some ⟨bi, 0, none⟩), .int .i64 0] by show Value.tuple #[nptr (P i), _] = _; rw [hpi]; rfl] at HK
    rw [hq] at HV
    have hv2 : fileV P M s = if isDir M i then .tuple #[.pointer none, .int .i64 21] else .tuple #[.pointer (some ⟨bi, 0, none⟩), .int .i64 0] := by
      rw [HV.out]
      show (if isDir M i then _ else Value.tuple #[nptr (P i), _]) = _
      rw [hpi]; rfl
    have HV2 := Lib.hid hv2
    clear HV hv2 hmi hpi hi hq
    generalize isDir M i = di at *
    go_enter Try.func38, Try.ntmps38
    go_wp2_with fail
    refine HK.out.mono ?_
    rintro e w1 ⟨rfl, hb1⟩
    have HB1 := Lib.hid hb1
    have HD1 := Lib.hid (HD.out w1 hb1)
    clear hb1 HK HD
    cases di
    · go_wp2_with fail
      refine HD1.out.mono ?_
      rintro e w2 ⟨rfl, rfl⟩
      go_wp2_with fail
      go_ret2
      exact ⟨by rw [HV2.out]; rfl, HB1.out⟩
    · go_wp2_with fail
      refine HD1.out.mono ?_
      rintro e w2 ⟨rfl, rfl⟩
      go_wp2_with fail
      go_ret2
      exact ⟨by rw [HV2.out]; rfl, HB1.out⟩
theorem take_snoc {α : Type} {l : List α} {k : Nat} {x : α} (h : l[k]? = some x) : l.take (k + 1) = l.take k ++ [x] := by
  obtain ⟨hl, rfl⟩ := List.getElem?_eq_some_iff.1 h
  exact List.take_succ_eq_append_getElem hl
/-- How many bytes the path of names has. -/
def longN (l : List ByteArray) : Int := (l.map fun s => 1 + (s.size : Int)).sum
theorem longN_snoc (l : List ByteArray) (s : ByteArray) : longN (l ++ [s]) = longN l + (1 + s.size) := by unfold longN; rw [List.map_append, List.sum_append]; simp
theorem longN_bd (l : List ByteArray) (h : ∀ s ∈ l, s.size ≤ 1000000) : 0 ≤ longN l ∧ longN l ≤ 1000001 * l.length := by
  induction l with
  | nil => simp [longN]
  | cons s l ih =>
    have h1 := ih fun x hx => h x (List.mem_cons_of_mem _ hx)
    have h2 := h s List.mem_cons_self
    have h3 : longN (s :: l) = 1 + (s.size : Int) + longN l := by unfold longN; rw [List.map_cons, List.sum_cons]
    rw [h3, List.length_cons]
    omega
set_option maxHeartbeats 2000000 in
set_option maxRecDepth 100000 in
theorem long_any {B : Nat} {v : Value} {l : List ByteArray} {w : World} (hv : StrsAt B w v l) (hl : l.length ≤ 1000) (hs : ∀ s ∈ l, s.size ≤ 1000000) :
    Calls Try.prog 58 #[v] w fun e w' => e = .returned (.int .i64 (longN l)) ∧ w' = w := by
  obtain ⟨va, vc, rfl⟩ := hv.shape
  have HV := Lib.hid hv; have HS := Lib.hid hs
  have hl' : ((l.length : Nat) : Int) ≤ 1000 := by omega
  clear hv hs
  go_enter Try.func58, Try.ntmps58
  go_wp2_with fail
  go_loop [3, 8] (fun n idx => ∃ k : Nat, k ≤ l.length ∧ idx = .int .i64 k ∧ n = .int .i64 (longN (l.take k))) (fun _ idx => l.length - (RowKit.intOf idx).toNat)
  case atStart => exact ⟨0, by omega, rfl, rfl⟩
  case round =>
    obtain ⟨k, hk, rfl, rfl⟩ := hrel
    by_cases hkl : k < l.length
    · obtain ⟨s, hs⟩ : ∃ s, l[k]? = some s := ⟨_, List.getElem?_eq_getElem hkl⟩
      have hsz := HS.out s (List.mem_of_getElem? hs)
      have hbd := longN_bd (l.take k) fun x hx => HS.out x (List.mem_of_mem_take hx)
      rw [List.length_take, Nat.min_eq_left hk] at hbd
      have hsn : longN (l.take (k + 1)) = longN (l.take k) + (1 + s.size) := by rw [take_snoc hs, longN_snoc]
      have HSN := Lib.hid hsn
      rcases HV.out with ⟨h0, _⟩ | ⟨g, o, c, he, hlc, _, _, hcell⟩
      · rw [h0] at hkl; simp at hkl
      · injection he with e1 _ e3
        subst e1 e3
        have k0 := hcell k s hs
        have b0 : (0 : Int) ≤ (k : Int) := by omega
        have b1 : (k : Int) < (l.length : Int) := by omega
        obtain ⟨z0, z1⟩ := hbd
        have z2 : longN (l.take k) ≤ 2000000000 := by omega
        have w1 : IntKind.i64.wrap (1 + (s.size : Int)) = 1 + (s.size : Int) := IntWalk.i64_in _ (by omega)
        have w2 : IntKind.i64.wrap (longN (l.take k) + (1 + (s.size : Int))) = longN (l.take k) + (1 + (s.size : Int)) := IntWalk.i64_in _ (by omega)
        clear hcell hs hsn z1 hsz
        go_wp2_with fail
        go_roundw
        case rel => exact ⟨k + 1, by omega, by go_num, by rw [HSN.out]⟩
        case measure => simp only [RowKit.intOf]; omega
    · obtain rfl : k = l.length := by omega
      rw [List.take_length]
      go_wp2_with fail
      go_ret
      exact ⟨rfl, rfl⟩
end
end Go.Proofs.Ytoofcnehoffllaa
