/- Plain laws: the pieces of a path between '/' bytes; what strings.FieldsFunc gives at '/' is these. -/
import Derived.Test.YtpgeldhleikcdaaN1
namespace Go.Proofs.Ytpgeldhleikcdaa
open Go.RowKit Go.Lib

/-- The pieces between '/', the empty ones left out; cur is what of a piece has been seen. -/
def fieldsB (cur : List UInt8) : List UInt8 → List (List UInt8)
  | [] => if cur = [] then [] else [cur]
  | x :: r => if x = 47 then (if cur = [] then fieldsB [] r else cur :: fieldsB [] r) else fieldsB (cur ++ [x]) r
theorem fieldsB_run : ∀ (b cur r : List UInt8), (∀ x ∈ b, x ≠ 47) → fieldsB cur (b ++ r) = fieldsB (cur ++ b) r
  | [], cur, r, _ => by simp
  | x :: b, cur, r, h => by
    rw [List.cons_append, fieldsB, if_neg (h x (by simp)), fieldsB_run b _ r fun y hy => h y (by simp [hy])]
    simp
theorem fieldsB_last (cur : List UInt8) : fieldsB cur [] = if cur = [] then [] else [cur] := rfl
theorem fieldsB_slash (cur r : List UInt8) : fieldsB cur (47 :: r) = if cur = [] then fieldsB [] r else cur :: fieldsB [] r := by rw [fieldsB, if_pos rfl]

theorem slash_step (s : ByteArray) (pos : Nat) (h : pos < s.size) : 1 ≤ (Utf8.decode s pos).2 ∧ pos + (Utf8.decode s pos).2 ≤ s.size ∧
    (((Utf8.decode s pos).1 == 47) = true → (Utf8.decode s pos).2 = 1 ∧ s.data.toList[pos]? = some 47) ∧
    (((Utf8.decode s pos).1 == 47) = false → ∀ j y, pos ≤ j → j < pos + (Utf8.decode s pos).2 → s.data.toList[j]? = some y → y ≠ 47) := by
  have hx := data_getElem? s pos h
  obtain ⟨h1, h2⟩ := decode_skip s pos h
  by_cases h128 : s[pos].toNat < 128
  · have hd : Utf8.decode s pos = (s[pos].toNat, 1) := by
      rw [decode_N, List.getD_eq_getElem?_getD, hx]
      exact decodeN_ascii _ _ _ _ _ h128
    rw [hd] at h1 h2 ⊢
    refine ⟨Nat.le_refl _, h1, fun hr => ⟨rfl, ?_⟩, fun hr j y hj hj2 hy he => ?_⟩
    · rw [hx]; congr 1; rw [← UInt8.toNat_inj]; exact eq_of_beq hr
    · have hjp : j = pos := by simp at hj2; omega
      subst hjp
      rw [hx] at hy
      have := Option.some.inj hy
      rw [this, he] at hr
      simp at hr
  · obtain ⟨hr1, hw1⟩ := decode_high s pos h (by omega)
    refine ⟨hw1, h1, fun hr => ?_, fun _ j y hj hj2 hy he => ?_⟩
    · have := eq_of_beq hr; omega
    · subst he
      by_cases hjp : j = pos
      · subst hjp; rw [hx] at hy
        have := Option.some.inj hy
        rw [this] at h128; exact absurd (by decide) h128
      · exact absurd (h2 j 47 (by omega) hj2 hy) (by decide)

def curOf (l : List UInt8) (pos : Nat) : Option Nat → List UInt8
  | none => []
  | some a => (l.drop a).take (pos - a)

theorem spans_slash (s : ByteArray) : ∀ (f pos : Nat) (st : Option Nat) (acc : List (Nat × Nat)), s.size - pos ≤ f → pos ≤ s.size → (∀ a, st = some a → a < pos) →
    (closeSpans s (spansFromP (fun r => r == 47) s f pos st acc)).map (fun x => (s.extract x.1 x.2).data.toList) = acc.map (fun x => (s.extract x.1 x.2).data.toList) ++ fieldsB (curOf s.data.toList pos st) (s.data.toList.drop pos) := by
  have hsz : s.data.toList.length = s.size := (size_eq s).symm
  have hex : ∀ a b, (s.extract a b).data.toList = (s.data.toList.drop a).take (b - a) := fun a b => by rw [← toList_data, extract_toList]
  have hend : ∀ (f : Nat) (st : Option Nat) (acc : List (Nat × Nat)), (∀ a, st = some a → a < s.size) →
      (closeSpans s (spansFromP (fun r => r == 47) s f s.size st acc)).map (fun x => (s.extract x.1 x.2).data.toList) = acc.map (fun x => (s.extract x.1 x.2).data.toList) ++ fieldsB (curOf s.data.toList s.size st) (s.data.toList.drop s.size) := by
    intro f st acc hst
    rw [spansFromP_end _ _ _ _ _ _ (by omega), show s.data.toList.drop s.size = [] from List.drop_eq_nil_of_le (by omega), fieldsB_last]
    cases st with
    | none => simp [closeSpans, curOf]
    | some a =>
      have ha := hst a rfl
      have hne : curOf s.data.toList s.size (some a) ≠ [] := by
        intro h
        have := congrArg List.length h
        simp [curOf] at this
        omega
      rw [if_neg hne]
      simp only [closeSpans, List.map_append, List.map_cons, List.map_nil, hex, curOf]
  intro f
  induction f with
  | zero =>
    intro pos st acc hf hp hst
    obtain rfl : pos = s.size := by omega
    exact hend 0 st acc hst
  | succ f ih =>
    intro pos st acc hf hp hst
    by_cases hlt : pos < s.size
    · obtain ⟨h1, h2, h3, h4⟩ := slash_step s pos hlt
      unfold spansFromP
      rw [if_pos hlt]
      cases hr : ((Utf8.decode s pos).1 == 47)
      · have h4 := h4 hr
        rw [if_neg (by simp)]
        have hb : s.data.toList.drop pos = (s.data.toList.drop pos).take (Utf8.decode s pos).2 ++ s.data.toList.drop (pos + (Utf8.decode s pos).2) := by
          rw [← List.drop_drop, List.take_append_drop]
        have hall : ∀ x ∈ (s.data.toList.drop pos).take (Utf8.decode s pos).2, x ≠ 47 := by
          intro x hx
          obtain ⟨j, hj⟩ := List.mem_iff_getElem?.1 hx
          rw [List.getElem?_take] at hj
          split at hj
          · rw [List.getElem?_drop] at hj
            exact h4 (pos + j) x (by omega) (by omega) hj
          · cases hj
        rw [hb, fieldsB_run _ _ _ hall]
        cases st with
        | none =>
          simp only
          rw [ih _ _ _ (by omega) (by omega) (by intro a ha; cases ha; omega)]
          simp [curOf]
        | some a =>
          have ha := hst a rfl
          simp only
          rw [ih _ _ _ (by omega) (by omega) (by intro a' ha'; cases ha'; omega)]
          have : curOf s.data.toList (pos + (Utf8.decode s pos).2) (some a) = curOf s.data.toList pos (some a) ++ (s.data.toList.drop pos).take (Utf8.decode s pos).2 := by
            simp only [curOf]
            rw [show pos + (Utf8.decode s pos).2 - a = (pos - a) + (Utf8.decode s pos).2 by omega, List.take_add, List.drop_drop, show a + (pos - a) = pos by omega]
          rw [this]
      · obtain ⟨hd, hx⟩ := h3 hr
        rw [if_pos rfl, hd]
        have hb : s.data.toList.drop pos = 47 :: s.data.toList.drop (pos + 1) := by
          have hl : pos < s.data.toList.length := by omega
          rw [List.drop_eq_getElem_cons hl]
          congr 1
          exact (List.getElem?_eq_some_iff.1 hx).2
        rw [hb, fieldsB_slash]
        cases st with
        | none =>
          simp only
          rw [ih _ _ _ (by omega) (by omega) (by intro a ha; cases ha)]
          simp [curOf]
        | some a =>
          have ha := hst a rfl
          have hne : curOf s.data.toList pos (some a) ≠ [] := by
            intro h
            have := congrArg List.length h
            simp [curOf] at this
            omega
          simp only
          rw [ih _ _ _ (by omega) (by omega) (by intro a' ha'; cases ha'), if_neg hne]
          simp only [curOf, List.map_append, List.map_cons, List.map_nil, List.append_assoc, List.cons_append, List.nil_append, hex]
    · obtain rfl : pos = s.size := by omega
      exact hend _ st acc hst

def mkS (l : List UInt8) : ByteArray := ⟨l.toArray⟩
theorem mkS_data (s : ByteArray) : mkS s.data.toList = s := by cases s; simp [mkS]
theorem data_mkS (l : List UInt8) : (mkS l).data.toList = l := by simp [mkS]
/-- A path's pieces. -/
def splitL (s : ByteArray) : List ByteArray := (fieldsB [] s.data.toList).map mkS
theorem goFields_slash (s : ByteArray) : goFieldsP (fun r => r == 47) s = splitL s := by
  have h := spans_slash s s.size 0 none [] (by omega) (by omega) (by intro a ha; cases ha)
  unfold splitL
  simp only [curOf, List.map_nil, List.nil_append, List.drop_zero] at h
  rw [← h, List.map_map]
  unfold goFieldsP spansOfP
  refine List.map_congr_left fun x _ => ?_
  exact (mkS_data _).symm

def splitE (s : ByteArray) : Int := if 255 < s.size then 36 else if s.data.toList.head? = some 47 then firstE (splitL s) else 22
def splitN (s : ByteArray) : List ByteArray := if splitE s = 0 then splitL s else []
def splitD (s : ByteArray) : Bool := decide (splitE s = 0) && (s.data.toList.getLast? == some 47)
end Go.Proofs.Ytpgeldhleikcdaa
