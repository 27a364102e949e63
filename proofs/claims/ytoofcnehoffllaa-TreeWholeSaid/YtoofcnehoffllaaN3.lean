/- Lists of texts as slices; walks of name.first (firstE) and marlref01.Texts (equality). -/
/- Plain laws: the pieces of a path between '/' bytes; what strings.FieldsFunc gives at '/' is these. -/
/- Walk of name.Split: a path's pieces, whether it ends in '/', the error. -/
import Derived.Test.YtoofcnehoffllaaE6
namespace Go.Proofs.Ytoofcnehoffllaa
open Go.RowKit

/-- v is a slice of the texts l, that lie below B. -/
def StrsAt (B : Nat) (w : World) (v : Value) (l : List ByteArray) : Prop :=
  (l = [] ∧ ∃ a c, v = .slice a 0 c) ∨ (∃ g o c, v = .slice (some ⟨g, o, none⟩) l.length c ∧ l.length ≤ c ∧ 0 < l.length ∧ g < B ∧ ∀ j x, l[j]? = some x → w.cell? ⟨g, o + j, none⟩ = some (.string x))
theorem cell_below {B : Nat} {w w' : World} (h : Below B w w') {g o : Nat} (hg : g < B) : w'.cell? ⟨g, o, none⟩ = w.cell? ⟨g, o, none⟩ :=
  World.cell?_of_block (w := w) (a := ⟨g, o, none⟩) (h.block g hg)
theorem StrsAt.below {B : Nat} {w w' : World} {v : Value} {l : List ByteArray} (h : StrsAt B w v l) (hb : Below B w w') : StrsAt B w' v l := by
  rcases h with h | ⟨g, o, c, h1, h2, h3, h4, h5⟩
  · exact .inl h
  · exact .inr ⟨g, o, c, h1, h2, h3, h4, fun j x hx => by rw [cell_below hb h4]; exact h5 j x hx⟩
theorem StrsAt.mono {B B' : Nat} {w : World} {v : Value} {l : List ByteArray} (h : StrsAt B w v l) (hb : B ≤ B') : StrsAt B' w v l := by
  rcases h with h | ⟨g, o, c, h1, h2, h3, h4, h5⟩
  · exact .inl h
  · exact .inr ⟨g, o, c, h1, h2, h3, by omega, h5⟩
theorem StrsAt.nil {B : Nat} {w : World} : StrsAt B w (.slice none 0 0) [] := .inl ⟨rfl, none, 0, rfl⟩
theorem StrsAt.own {B : Nat} {w : World} {v : Value} {l : List ByteArray} (h : w.ownsRow B 9 1 v l.length (l.map Value.string)) : StrsAt w.heap.size w v l := by
  by_cases hn : 0 < l.length
  · rcases h.2 with ⟨rfl, h0⟩ | ⟨g, cap, cur, rfl, hb, hg, hcap, hcur, h6, h7⟩
    · omega
    · refine .inr ⟨g, 0, cap, rfl, by omega, hn, blk_lt hg, fun j x hx => ?_⟩
      have hjl : j < l.length := (List.getElem?_eq_some_iff.1 hx).1
      rw [Nat.zero_add]
      refine cell_blk_some hg ?_
      have := h7
      simp only [Nat.mul_one] at this
      have h8 : (cur.toList.take l.length)[j]? = (l.map Value.string)[j]? := by rw [this]
      rw [List.getElem?_take, if_pos hjl, List.getElem?_map, hx] at h8
      simpa using h8
  · obtain rfl : l = [] := List.eq_nil_of_length_eq_zero (by omega)
    rcases h.2 with ⟨rfl, _⟩ | ⟨g, cap, cur, rfl, _⟩
    · exact .nil
    · exact .inl ⟨rfl, _, _, rfl⟩

/-- The error of the first that is no name. -/
def firstE : List ByteArray → Int
  | [] => 0
  | x :: r => if nameE x.data.toList = 0 then firstE r else nameE x.data.toList
theorem firstE_drop (l : List ByteArray) (k : Nat) (x : ByteArray) (hx : l[k]? = some x) : firstE (l.drop k) = if nameE x.data.toList = 0 then firstE (l.drop (k + 1)) else nameE x.data.toList := by
  have hk : k < l.length := (List.getElem?_eq_some_iff.1 hx).1
  have hxk : l[k] = x := (List.getElem?_eq_some_iff.1 hx).2
  rw [List.drop_eq_getElem_cons hk, hxk]; rfl

set_option maxHeartbeats 1000000 in
theorem first_any {B : Nat} {w : World} {v : Value} {l : List ByteArray} (h : StrsAt B w v l) (hB : B ≤ w.heap.size) (hs : ∀ x ∈ l, x.size ≤ 140737488355328) (hn : l.length ≤ 4611686018427387904) :
    Calls Try.prog 53 #[v] w fun e w' => e = .returned (.int .i64 (firstE l)) ∧ Below w.heap.size w w' := by
  rcases h with ⟨rfl, a, c, rfl⟩ | ⟨g, o, c, rfl, h2, h3, h4, h5⟩
  · go_enter Try.func53, Try.ntmps53
    go_wp2_with fail
    go_loop [8] (fun i => i = .int .i64 0) (fun _ => 0)
    case atStart => rfl
    case round =>
      obtain rfl := hrel
      go_wp2_with fail
      go_ret
      exact ⟨rfl, Below.refl _ _⟩
  · have H5 := Lib.hid h5; clear h5
    have HS := Lib.hid hs; clear hs
    obtain ⟨r, hr⟩ : ∃ r, r = firstE l := ⟨_, rfl⟩
    rw [← hr]
    have HR := Lib.hid hr; clear hr
    go_enter Try.func53, Try.ntmps53
    go_wp2_with fail
    go_loopw [8] (fun i wr => ∃ k : Nat, k ≤ l.length ∧ i = .int .i64 k ∧ firstE (l.drop k) = r ∧ Below w.heap.size w wr) (fun i _ => l.length - (intOf i).toNat)
    case atStart => exact ⟨0, Nat.zero_le _, rfl, HR.out.symm, Below.refl _ _⟩
    case round =>
      obtain ⟨k, hk, rfl, hf, hb⟩ := hrel
      by_cases hlt : k < l.length
      · obtain ⟨x, hx⟩ : ∃ x, l[k]? = some x := ⟨_, List.getElem?_eq_getElem hlt⟩
        have hxs := HS.out x (List.mem_of_getElem? hx)
        have hc := (cell_below hb (Nat.lt_of_lt_of_le h4 hB) (o := o + k)).trans (H5.out k x hx)
        rw [firstE_drop l k x hx] at hf
        have HF := Lib.hid hf; clear hf
        clear hx
        go_wp2_with fail
        refine (entryName_any x hxs _).mono ?_
        rintro e w1 ⟨rfl, hb1⟩
        have hb2 := below_call hb hb1 (Nat.le_refl _)
        clear hb hb1 hc
        by_cases h0 : nameE x.data.toList = 0
        · have hf := HF.out
          rw [if_pos h0] at hf
          have HF2 := Lib.hid hf; clear hf
          rw [h0]
          have H0 := Lib.hid h0; clear h0
          go_wp2_with fail
          go_roundw
          case rel => exact ⟨k + 1, by omega, by go_num, HF2.out, hb2⟩
          case measure => simp [intOf]; omega
        · have hf := HF.out
          rw [if_neg h0] at hf
          have h1 : (nameE x.data.toList == 0) = false := by simpa using h0
          have HF2 := Lib.hid hf; clear hf
          clear h0
          generalize nameE x.data.toList = q at *
          go_wp2_with fail
          go_ret
          exact ⟨by rw [HF2.out]; rfl, hb2⟩
      · obtain rfl : k = l.length := by omega
        rw [List.drop_length] at hf
        have hr0 : r = 0 := hf.symm
        subst hr0
        clear hf
        go_wp2_with fail
        go_ret
        exact ⟨rfl, hb⟩

theorem texts_len (l m : List ByteArray) (hlm : l.length ≠ m.length) (a b : Option Addr) (c d : Nat) (w : World) :
    Calls Try.prog 19 #[.slice a l.length c, .slice b m.length d] w fun e w' => e = .returned (.bool (decide (l = m))) ∧ Below w.heap.size w w' := by
  have hne : decide (l = m) = false := dec_false (fun h => hlm (by rw [h]))
  rw [hne]
  have q : ((l.length : Int) != (m.length : Int)) = true := by simp; omega
  go_enter Try.func19, Try.ntmps19
  go_wp2_with fail
  go_ret
  exact ⟨rfl, Below.refl _ _⟩
theorem toList_inj {x y : ByteArray} (h : x.toList = y.toList) : x = y := by
  rw [ByteArray.toList_eq, ByteArray.toList_eq] at h
  cases x; cases y; simpa using h
theorem take_succ_iff (l m : List ByteArray) (k : Nat) (x y : ByteArray) (hx : l[k]? = some x) (hy : m[k]? = some y) (h : l.take k = m.take k) : (l.take (k + 1) = m.take (k + 1)) ↔ x = y := by
  rw [List.take_add_one, List.take_add_one, hx, hy, h]; simp

set_option maxHeartbeats 1000000 in
theorem texts_any {B : Nat} {w : World} {u v : Value} {l m : List ByteArray} (h : StrsAt B w u l) (h' : StrsAt B w v m) (hB : B ≤ w.heap.size) (hl : l.length ≤ 4611686018427387904) (hm : m.length ≤ 4611686018427387904) :
    Calls Try.prog 19 #[u, v] w fun e w' => e = .returned (.bool (decide (l = m))) ∧ Below w.heap.size w w' := by
  by_cases hlm : l.length = m.length
  · rcases h with ⟨rfl, a, c, rfl⟩ | ⟨g, o, c, rfl, h2, h3, h4, h5⟩
    · have hm0 : m = [] := List.eq_nil_of_length_eq_zero hlm.symm
      subst hm0
      rcases h' with ⟨_, a', c', rfl⟩ | ⟨g', o', c', rfl, h2', h3', h4', h5'⟩
      · go_enter Try.func19, Try.ntmps19
        go_wp2_with fail
        go_loop [13] (fun i => i = .int .i64 0) (fun _ => 0)
        case atStart => rfl
        case round =>
          obtain rfl := hrel
          go_wp2_with fail
          go_ret
          exact ⟨rfl, Below.refl _ _⟩
      · simp at h3'
    · rcases h' with ⟨rfl, a', c', rfl⟩ | ⟨g', o', c', rfl, h2', h3', h4', h5'⟩
      · simp at hlm; subst hlm; simp at h3
      · have H5 := Lib.hid h5; clear h5
        have H5' := Lib.hid h5'; clear h5'
        obtain ⟨r, hr⟩ : ∃ r, r = decide (l = m) := ⟨_, rfl⟩
        rw [← hr]
        have HR := Lib.hid hr; clear hr
        have q : ((l.length : Int) != (m.length : Int)) = false := by simp; omega
        go_enter Try.func19, Try.ntmps19
        go_wp2_with fail
        go_loopw [13] (fun i wr => ∃ k : Nat, k ≤ l.length ∧ i = .int .i64 k ∧ l.take k = m.take k ∧ Below w.heap.size w wr) (fun i _ => l.length - (intOf i).toNat)
        case atStart => exact ⟨0, Nat.zero_le _, rfl, rfl, Below.refl _ _⟩
        case round =>
          obtain ⟨k, hk, rfl, hf, hb⟩ := hrel
          have HF := Lib.hid hf; clear hf
          by_cases hlt : k < l.length
          · obtain ⟨x, hx⟩ : ∃ x, l[k]? = some x := ⟨_, List.getElem?_eq_getElem hlt⟩
            obtain ⟨y, hy⟩ : ∃ y, m[k]? = some y := ⟨_, List.getElem?_eq_getElem (by omega)⟩
            have hc := (cell_below hb (Nat.lt_of_lt_of_le h4 hB) (o := o + k)).trans (H5.out k x hx)
            have hc' := (cell_below hb (Nat.lt_of_lt_of_le h4' hB) (o := o' + k)).trans (H5'.out k y hy)
            have hlt' : k < m.length := by omega
            have HX := Lib.hid hx; have HY := Lib.hid hy
            clear hx hy
            go_wp2_with fail
            go_quiet (fail)
            have hbn := below_drewN hb nq
            clear hc hc'
            generalize wr.drewN nq = w' at hbn ⊢
            by_cases hxy : x = y
            · have e : (x.toList == y.toList) = true := by rw [hxy]; simp
              have hf := (take_succ_iff l m k x y HX.out HY.out HF.out).2 hxy
              have HF2 := Lib.hid hf; clear hf hxy
              rw [e, Bool.not_true]
              go_wp2_with fail
              go_roundw
              case rel => exact ⟨k + 1, by omega, by go_num, HF2.out, hbn⟩
              case measure => simp [intOf]; omega
            · have e : (x.toList == y.toList) = false := by
                rw [beq_eq_false_iff_ne]; intro h; exact hxy (toList_inj h)
              have hr0 : r = false := by
                rw [HR.out]; refine dec_false (fun h => hxy ?_)
                have h1 := HX.out; have h2 := HY.out
                rw [h] at h1; rw [h1] at h2; exact Option.some.inj h2
              subst hr0
              clear hxy
              rw [e, Bool.not_false]
              go_wp2_with fail
              go_ret
              exact ⟨rfl, hbn⟩
          · obtain rfl : k = l.length := by omega
            have hr1 : r = true := by
              rw [HR.out]; have := HF.out
              rw [List.take_length, hlm, List.take_length] at this
              exact dec_true this
            subst hr1
            go_wp2_with fail
            go_ret
            exact ⟨rfl, hb⟩
  · have hu : ∃ a c, u = .slice a l.length c := by
      rcases h with ⟨rfl, a, c, rfl⟩ | ⟨g, o, c, rfl, _⟩
      · exact ⟨a, c, rfl⟩
      · exact ⟨_, c, rfl⟩
    have hv : ∃ a c, v = .slice a m.length c := by
      rcases h' with ⟨rfl, a, c, rfl⟩ | ⟨g, o, c, rfl, _⟩
      · exact ⟨a, c, rfl⟩
      · exact ⟨_, c, rfl⟩
    obtain ⟨a, c, rfl⟩ := hu
    obtain ⟨b, d, rfl⟩ := hv
    exact texts_len l m hlm a b c d w
end Go.Proofs.Ytoofcnehoffllaa

namespace Go.Proofs.Ytoofcnehoffllaa
open Go.RowKit Go.Lib

/-- The pieces between '/', the empty ones left out; cur is what of a piece has been seen. -/
def fieldsB (cur : List UInt8) : List UInt8 → List (List UInt8)
  | [] => if cur = [] then [] else [cur]
  | x :: r => if x = 47 then (if cur = [] then fieldsB [] r else cur :: fieldsB [] r) else fieldsB (cur ++ [x]) r
theorem fieldsB_run : ∀ (b cur r : List UInt8), (∀ x ∈ b, x ≠ 47) → fieldsB cur (b ++ r) = fieldsB (cur ++ b) r
  | [], cur, r, _ => by simp
  | x :: b, cur, r, h => by
    rw [List.cons_append, fieldsB, if_neg (h x (by simp)), fieldsB_run b _ r fun y hy => h y (by simp [hy])]
    simp
theorem fieldsB_last (cur : List UInt8) : fieldsB cur [] = if cur = [] then [] else [cur] := rfl
theorem fieldsB_slash (cur r : List UInt8) : fieldsB cur (47 :: r) = if cur = [] then fieldsB [] r else cur :: fieldsB [] r := by rw [fieldsB, if_pos rfl]

theorem slash_step (s : ByteArray) (pos : Nat) (h : pos < s.size) : 1 ≤ (Utf8.decode s pos).2 ∧ pos + (Utf8.decode s pos).2 ≤ s.size ∧
    (((Utf8.decode s pos).1 == 47) = true → (Utf8.decode s pos).2 = 1 ∧ s.data.toList[pos]? = some 47) ∧
    (((Utf8.decode s pos).1 == 47) = false → ∀ j y, pos ≤ j → j < pos + (Utf8.decode s pos).2 → s.data.toList[j]? = some y → y ≠ 47) := by
  have hx := data_getElem? s pos h
  obtain ⟨h1, h2⟩ := decode_skip s pos h
  by_cases h128 : s[pos].toNat < 128
  · have hd : Utf8.decode s pos = (s[pos].toNat, 1) := by
      rw [decode_N, List.getD_eq_getElem?_getD, hx]
      exact decodeN_ascii _ _ _ _ _ h128
    rw [hd] at h1 h2 ⊢
    refine ⟨Nat.le_refl _, h1, fun hr => ⟨rfl, ?_⟩, fun hr j y hj hj2 hy he => ?_⟩
    · rw [hx]; congr 1; rw [← UInt8.toNat_inj]; exact eq_of_beq hr
    · have hjp : j = pos := by simp at hj2; omega
      subst hjp
      rw [hx] at hy
      have := Option.some.inj hy
      rw [this, he] at hr
      simp at hr
  · obtain ⟨hr1, hw1⟩ := decode_high s pos h (by omega)
    refine ⟨hw1, h1, fun hr => ?_, fun _ j y hj hj2 hy he => ?_⟩
    · have := eq_of_beq hr; omega
    · subst he
      by_cases hjp : j = pos
      · subst hjp; rw [hx] at hy
        have := Option.some.inj hy
        rw [this] at h128; exact absurd (by decide) h128
      · exact absurd (h2 j 47 (by omega) hj2 hy) (by decide)

def curOf (l : List UInt8) (pos : Nat) : Option Nat → List UInt8
  | none => []
  | some a => (l.drop a).take (pos - a)

theorem spans_slash (s : ByteArray) : ∀ (f pos : Nat) (st : Option Nat) (acc : List (Nat × Nat)), s.size - pos ≤ f → pos ≤ s.size → (∀ a, st = some a → a < pos) →
    (closeSpans s (spansFromP (fun r => r == 47) s f pos st acc)).map (fun x => (s.extract x.1 x.2).data.toList) = acc.map (fun x => (s.extract x.1 x.2).data.toList) ++ fieldsB (curOf s.data.toList pos st) (s.data.toList.drop pos) := by
  have hsz : s.data.toList.length = s.size := (size_eq s).symm
  have hex : ∀ a b, (s.extract a b).data.toList = (s.data.toList.drop a).take (b - a) := fun a b => by rw [← toList_data, extract_toList]
  have hend : ∀ (f : Nat) (st : Option Nat) (acc : List (Nat × Nat)), (∀ a, st = some a → a < s.size) →
      (closeSpans s (spansFromP (fun r => r == 47) s f s.size st acc)).map (fun x => (s.extract x.1 x.2).data.toList) = acc.map (fun x => (s.extract x.1 x.2).data.toList) ++ fieldsB (curOf s.data.toList s.size st) (s.data.toList.drop s.size) := by
    intro f st acc hst
    rw [spansFromP_end _ _ _ _ _ _ (by omega), show s.data.toList.drop s.size = [] from List.drop_eq_nil_of_le (by omega), fieldsB_last]
    cases st with
    | none => simp [closeSpans, curOf]
    | some a =>
      have ha := hst a rfl
      have hne : curOf s.data.toList s.size (some a) ≠ [] := by
        intro h
        have := congrArg List.length h
        simp [curOf] at this
        omega
      rw [if_neg hne]
      simp only [closeSpans, List.map_append, List.map_cons, List.map_nil, hex, curOf]
  intro f
  induction f with
  | zero =>
    intro pos st acc hf hp hst
    obtain rfl : pos = s.size := by omega
    exact hend 0 st acc hst
  | succ f ih =>
    intro pos st acc hf hp hst
    by_cases hlt : pos < s.size
    · obtain ⟨h1, h2, h3, h4⟩ := slash_step s pos hlt
      unfold spansFromP
      rw [if_pos hlt]
      cases hr : ((Utf8.decode s pos).1 == 47)
      · have h4 := h4 hr
        rw [if_neg (by simp)]
        have hb : s.data.toList.drop pos = (s.data.toList.drop pos).take (Utf8.decode s pos).2 ++ s.data.toList.drop (pos + (Utf8.decode s pos).2) := by
          rw [← List.drop_drop, List.take_append_drop]
        have hall : ∀ x ∈ (s.data.toList.drop pos).take (Utf8.decode s pos).2, x ≠ 47 := by
          intro x hx
          obtain ⟨j, hj⟩ := List.mem_iff_getElem?.1 hx
          rw [List.getElem?_take] at hj
          split at hj
          · rw [List.getElem?_drop] at hj
            exact h4 (pos + j) x (by omega) (by omega) hj
          · cases hj
        rw [hb, fieldsB_run _ _ _ hall]
        cases st with
        | none =>
          simp only
          rw [ih _ _ _ (by omega) (by omega) (by intro a ha; cases ha; omega)]
          simp [curOf]
        | some a =>
          have ha := hst a rfl
          simp only
          rw [ih _ _ _ (by omega) (by omega) (by intro a' ha'; cases ha'; omega)]
          have : curOf s.data.toList (pos + (Utf8.decode s pos).2) (some a) = curOf s.data.toList pos (some a) ++ (s.data.toList.drop pos).take (Utf8.decode s pos).2 := by
            simp only [curOf]
            rw [show pos + (Utf8.decode s pos).2 - a = (pos - a) + (Utf8.decode s pos).2 by omega, List.take_add, List.drop_drop, show a + (pos - a) = pos by omega]
          rw [this]
      · obtain ⟨hd, hx⟩ := h3 hr
        rw [if_pos rfl, hd]
        have hb : s.data.toList.drop pos = 47 :: s.data.toList.drop (pos + 1) := by
          have hl : pos < s.data.toList.length := by omega
          rw [List.drop_eq_getElem_cons hl]
          congr 1
          exact (List.getElem?_eq_some_iff.1 hx).2
        rw [hb, fieldsB_slash]
        cases st with
        | none =>
          simp only
          rw [ih _ _ _ (by omega) (by omega) (by intro a ha; cases ha)]
          simp [curOf]
        | some a =>
          have ha := hst a rfl
          have hne : curOf s.data.toList pos (some a) ≠ [] := by
            intro h
            have := congrArg List.length h
            simp [curOf] at this
            omega
          simp only
          rw [ih _ _ _ (by omega) (by omega) (by intro a' ha'; cases ha'), if_neg hne]
          simp only [curOf, List.map_append, List.map_cons, List.map_nil, List.append_assoc, List.cons_append, List.nil_append, hex]
    · obtain rfl : pos = s.size := by omega
      exact hend _ st acc hst

def mkS (l : List UInt8) : ByteArray := ⟨l.toArray⟩
theorem mkS_data (s : ByteArray) : mkS s.data.toList = s := by cases s; simp [mkS]
theorem data_mkS (l : List UInt8) : (mkS l).data.toList = l := by simp [mkS]
/-- A path's pieces. -/
def splitL (s : ByteArray) : List ByteArray := (fieldsB [] s.data.toList).map mkS
theorem goFields_slash (s : ByteArray) : goFieldsP (fun r => r == 47) s = splitL s := by
  have h := spans_slash s s.size 0 none [] (by omega) (by omega) (by intro a ha; cases ha)
  unfold splitL
  simp only [curOf, List.map_nil, List.nil_append, List.drop_zero] at h
  rw [← h, List.map_map]
  unfold goFieldsP spansOfP
  refine List.map_congr_left fun x _ => ?_
  exact (mkS_data _).symm

def splitE (s : ByteArray) : Int := if 255 < s.size then 36 else if s.data.toList.head? = some 47 then firstE (splitL s) else 22
def splitN (s : ByteArray) : List ByteArray := if splitE s = 0 then splitL s else []
def splitD (s : ByteArray) : Bool := decide (splitE s = 0) && (s.data.toList.getLast? == some 47)
end Go.Proofs.Ytoofcnehoffllaa

namespace Go.Proofs.Ytoofcnehoffllaa
open Go.RowKit

def SplitPost (w : World) (s : ByteArray) (e : Ending) (w' : World) : Prop :=
  ∃ v, e = .returned (.tuple #[v, .bool (splitD s), .int .i64 (splitE s)]) ∧ StrsAt w'.heap.size w' v (splitN s) ∧ Below w.heap.size w w'

theorem clone_any (s : ByteArray) (hs : s.size ≤ 1000000) (w : World) :
    Calls Try.prog 51 #[.string s] w fun e w' => e = .returned (.string s) ∧ Below w.heap.size w w' := by
  have hc := fun w => Try.stringslite_Clone s w (by omega)
  go_enter Try.func51, Try.ntmps51
  go_wp2_with fail
  refine (hc _).mono ?_
  rintro e w' ⟨rfl, hb⟩
  go_wp2_with fail
  go_ret
  exact ⟨rfl, hb⟩
theorem clip_any (ad : Addr) (n c : Nat) (hc : n ≤ c) (w : World) :
    Calls Try.prog 54 #[.slice (some ad) n c] w fun e w' => e = .returned (.slice (some ad) n n) ∧ w' = w := by
  have m0 : (0 : Int) ≤ (n : Int) := by omega
  have m1 : (n : Int) ≤ (c : Int) := by omega
  have m2 : (n : Int) ≤ (n : Int) := by omega
  go_enter Try.func54, Try.ntmps54
  go_wp2_with fail
  go_ret
  exact ⟨rfl, rfl⟩
theorem pred_slash (w : World) : PredGrows Try.prog 52 #[] (fun r => r == 47) w := by
  intro W x hx hb
  have he : (#[encR x] ++ (#[] : Array Value)) = #[.int .i32 x] := by simp [encR]
  rw [he]
  have hq : ((x : Int) == 47) = (x == 47) := by rw [Bool.eq_iff_iff, beq_iff_eq, beq_iff_eq]; omega
  go_enter Try.func52, Try.ntmps52
  go_wp2_with fail
  go_ret
  exact ⟨by first | (rw [← hq]; rfl) | (show _ = Ending.returned (.bool (x == 47)); rw [← hq]; rfl), Below.refl _ _⟩

theorem prefix_slash (l : List UInt8) : Lib.hasPrefix l [47] = (l.head? == some 47) := by
  cases l with
  | nil => rfl
  | cons x r => simp [Lib.hasPrefix, List.isPrefixOf]; rw [Bool.eq_iff_iff, beq_iff_eq, beq_iff_eq]; exact eq_comm
theorem suffix_slash (l : List UInt8) : Lib.hasSuffix l [47] = (l.getLast? == some 47) := by
  unfold Lib.hasSuffix
  rw [Bool.eq_iff_iff, beq_iff_eq, List.isSuffixOf_iff_suffix]
  constructor
  · rintro ⟨t, rfl⟩; simp
  · intro h
    obtain ⟨t, rfl⟩ := List.getLast?_eq_some_iff.1 h
    exact ⟨t, rfl⟩

theorem extract_size_le (s : ByteArray) (a b : Nat) : (s.extract a b).size ≤ s.size := by
  rw [ByteArray.size_extract]; omega
theorem splitL_size (s x : ByteArray) (h : x ∈ splitL s) : x.size ≤ s.size := by
  rw [← goFields_slash] at h
  unfold Lib.goFieldsP at h
  obtain ⟨p, _, rfl⟩ := List.mem_map.1 h
  exact extract_size_le _ _ _
theorem fieldsB_count : ∀ (r cur : List UInt8), (fieldsB cur r).length ≤ r.length + 1
  | [], cur => by rw [fieldsB_last]; split <;> simp
  | x :: r, cur => by
    rw [fieldsB]
    have h1 := fieldsB_count r []
    have h2 := fieldsB_count r (cur ++ [x])
    split
    · split <;> simp <;> omega
    · simp; omega
theorem splitL_count (s : ByteArray) : (splitL s).length ≤ s.size + 1 := by
  unfold splitL
  rw [List.length_map, Lib.size_eq]
  exact fieldsB_count _ _

set_option maxHeartbeats 1000000 in
theorem split_any (s : ByteArray) (hs : s.size ≤ 1000000) (w : World) : Calls Try.prog 34 #[.string s] w (SplitPost w s) := by
  by_cases hbig : 255 < s.size
  · have hE : splitE s = 36 := if_pos hbig
    have hN : splitN s = [] := by unfold splitN; rw [hE]; rfl
    have hD : splitD s = false := by unfold splitD; rw [hE]; rfl
    unfold SplitPost
    rw [hE, hN, hD]
    clear hE hN hD
    go_enter Try.func34, Try.ntmps34
    go_wp2_with fail
    go_ret3
    exact ⟨_, rfl, .nil, Below.refl _ _⟩
  · have hp := fun w => Try.strings_HasPrefix s ⟨#[47]⟩ w
    have hpe : Lib.hasPrefix s.data.toList (ByteArray.mk #[47]).data.toList = (s.data.toList.head? == some 47) := prefix_slash _
    rw [hpe] at hp
    clear hpe
    by_cases hh : s.data.toList.head? = some 47
    · have hh' : (s.data.toList.head? == some 47) = true := by rw [hh]; rfl
      rw [hh'] at hp
      have hE : splitE s = firstE (splitL s) := by unfold splitE; rw [if_neg hbig, if_pos hh]
      have hf := fun w => Try.strings_FieldsFunc_grows 52 #[] (enters_of Try.func52 (by kernel_rfl) rfl) (fun r => r == 47) s w (by omega) (pred_slash w)
      rw [goFields_slash] at hf
      have hsz : ∀ x ∈ splitL s, x.size ≤ 140737488355328 := fun x hx => by have := splitL_size s x hx; omega
      have hct := splitL_count s
      have hl : (splitL s).length ≤ 1000 := by omega
      have hsf := fun w => Try.strings_HasSuffix s ⟨#[47]⟩ w (by omega)
      have hse : Lib.hasSuffix s.data.toList (ByteArray.mk #[47]).data.toList = (s.data.toList.getLast? == some 47) := suffix_slash _
      rw [hse] at hsf
      clear hse
      have hD : ∀ c, splitE s = c → splitD s = (decide (c = 0) && (s.data.toList.getLast? == some 47)) := fun c hc => by unfold splitD; rw [hc]
      have hN : ∀ c, splitE s = c → splitN s = if c = 0 then splitL s else [] := fun c hc => by unfold splitN; rw [hc]
      have HD := Lib.hid hD; have HN := Lib.hid hN; have HE := Lib.hid hE; have HSZ := Lib.hid hsz
      have HSF := Lib.hid hsf; have HP := Lib.hid hp; have HF := Lib.hid hf
      generalize (s.data.toList.getLast? == some 47) = dd at *
      clear hD hN hE hsz hh hh' hsf hp hf hct
      generalize splitL s = L at *
      go_enter Try.func34, Try.ntmps34
      go_wp2_with fail
      refine (HP.out _).mono ?_
      rintro e w1 ⟨rfl, hw⟩
      obtain rfl := hw.symm
      go_wp2_with fail
      refine (clone_any s hs _).mono ?_
      rintro e w2 ⟨rfl, hb2⟩
      go_wp2_with fail
      refine (HF.out _).mono ?_
      rintro e w3 ⟨A, rfl, hA, hown, hb3⟩
      have hb3' := below_call hb2 hb3 (Nat.le_refl _)
      have hst := StrsAt.own hown
      go_wp2_with fail
      refine (first_any hst (Nat.le_refl _) HSZ.out (by omega)).mono ?_
      rintro e w4 ⟨rfl, hb4⟩
      have hb4' := below_call hb3' hb4 (Nat.le_refl _)
      have hst4 := (hst.below hb4).mono hb4.size
      clear hst hown hb3 hb2 hb3' hb4 hA
      by_cases h0 : firstE L = 0
      · have hE0 := HE.out.trans h0
        rw [h0]
        clear h0
        go_wp2_with fail
        refine (clip_any ⟨A, 0, none⟩ L.length L.length (Nat.le_refl _) _).mono ?_
        rintro e w5 ⟨rfl, hw⟩
        obtain rfl := hw.symm
        have HE0 := Lib.hid hE0; clear hE0
        go_wp2_with fail
        refine (HSF.out _).mono ?_
        rintro e w6 ⟨rfl, hw⟩
        obtain rfl := hw.symm
        go_wp2_with fail
        go_ret3
        refine ⟨.slice (some ⟨A, 0, none⟩) L.length L.length, ?_, ?_, hb4'⟩
        · rw [HD.out 0 HE0.out, HE0.out]; rfl
        · rw [HN.out 0 HE0.out, if_pos rfl]; exact hst4
      · have h1 : (firstE L == 0) = false := by simpa using h0
        have hE1 := HE.out
        have hN1 := HN.out _ hE1
        rw [if_neg h0] at hN1
        have hD1 := HD.out _ hE1
        rw [decide_eq_false h0, Bool.false_and] at hD1
        have HE1 := Lib.hid hE1; have HN1 := Lib.hid hN1; have HD1 := Lib.hid hD1
        clear hE1 hN1 hD1 HE HN HD h0 hst4
        generalize firstE L = q at *
        go_wp2_with fail
        go_ret3
        refine ⟨.slice none 0 0, ?_, ?_, hb4'⟩
        · rw [HE1.out, HD1.out]; rfl
        · rw [HN1.out]; exact .nil
    · have hh' : (s.data.toList.head? == some 47) = false := by simpa using hh
      rw [hh'] at hp
      have hE : splitE s = 22 := by unfold splitE; rw [if_neg hbig, if_neg hh]
      have hN : splitN s = [] := by unfold splitN; rw [hE]; rfl
      have hD : splitD s = false := by unfold splitD; rw [hE]; rfl
      unfold SplitPost
      rw [hE, hN, hD]
      clear hE hN hD hh hh'
      go_enter Try.func34, Try.ntmps34
      go_wp2_with fail
      refine (hp _).mono ?_
      rintro e w1 ⟨rfl, hw⟩
      obtain rfl := hw.symm
      go_wp2_with fail
      go_ret3
      exact ⟨_, rfl, .nil, Below.refl _ _⟩
end Go.Proofs.Ytoofcnehoffllaa
