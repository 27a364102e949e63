/- Lists of texts as slices; walks of name.first (firstE) and marlref01.Texts (equality). -/
import Derived.Test.YtpgeldhleikcdaaE6
namespace Go.Proofs.Ytpgeldhleikcdaa
open Go.RowKit

/-- v is a slice of the texts l, that lie below B. -/
def StrsAt (B : Nat) (w : World) (v : Value) (l : List ByteArray) : Prop :=
  (l = [] ∧ ∃ a c, v = .slice a 0 c) ∨ (∃ g o c, v = .slice (some ⟨g, o, none⟩) l.length c ∧ l.length ≤ c ∧ 0 < l.length ∧ g < B ∧ ∀ j x, l[j]? = some x → w.cell? ⟨g, o + j, none⟩ = some (.string x))
theorem cell_below {B : Nat} {w w' : World} (h : Below B w w') {g o : Nat} (hg : g < B) : w'.cell? ⟨g, o, none⟩ = w.cell? ⟨g, o, none⟩ :=
  World.cell?_of_block (w := w) (a := ⟨g, o, none⟩) (h.block g hg)
theorem StrsAt.below {B : Nat} {w w' : World} {v : Value} {l : List ByteArray} (h : StrsAt B w v l) (hb : Below B w w') : StrsAt B w' v l := by
  rcases h with h | ⟨g, o, c, h1, h2, h3, h4, h5⟩
  · exact .inl h
  · exact .inr ⟨g, o, c, h1, h2, h3, h4, fun j x hx => by rw [cell_below hb h4]; exact h5 j x hx⟩
theorem StrsAt.mono {B B' : Nat} {w : World} {v : Value} {l : List ByteArray} (h : StrsAt B w v l) (hb : B ≤ B') : StrsAt B' w v l := by
  rcases h with h | ⟨g, o, c, h1, h2, h3, h4, h5⟩
  · exact .inl h
  · exact .inr ⟨g, o, c, h1, h2, h3, by omega, h5⟩
theorem StrsAt.nil {B : Nat} {w : World} : StrsAt B w (.slice none 0 0) [] := .inl ⟨rfl, none, 0, rfl⟩
theorem StrsAt.own {B : Nat} {w : World} {v : Value} {l : List ByteArray} (h : w.ownsRow B 9 1 v l.length (l.map Value.string)) : StrsAt w.heap.size w v l := by
  by_cases hn : 0 < l.length
  · rcases h.2 with ⟨rfl, h0⟩ | ⟨g, cap, cur, rfl, hb, hg, hcap, hcur, h6, h7⟩
    · omega
    · refine .inr ⟨g, 0, cap, rfl, by omega, hn, blk_lt hg, fun j x hx => ?_⟩
      have hjl : j < l.length := (List.getElem?_eq_some_iff.1 hx).1
      rw [Nat.zero_add]
      refine cell_blk_some hg ?_
      have := h7
      simp only [Nat.mul_one] at this
      have h8 : (cur.toList.take l.length)[j]? = (l.map Value.string)[j]? := by rw [this]
      rw [List.getElem?_take, if_pos hjl, List.getElem?_map, hx] at h8
      simpa using h8
  · obtain rfl : l = [] := List.eq_nil_of_length_eq_zero (by omega)
    rcases h.2 with ⟨rfl, _⟩ | ⟨g, cap, cur, rfl, _⟩
    · exact .nil
    · exact .inl ⟨rfl, _, _, rfl⟩

/-- The error of the first that is no name. -/
def firstE : List ByteArray → Int
  | [] => 0
  | x :: r => if nameE x.data.toList = 0 then firstE r else nameE x.data.toList
theorem firstE_drop (l : List ByteArray) (k : Nat) (x : ByteArray) (hx : l[k]? = some x) : firstE (l.drop k) = if nameE x.data.toList = 0 then firstE (l.drop (k + 1)) else nameE x.data.toList := by
  have hk : k < l.length := (List.getElem?_eq_some_iff.1 hx).1
  have hxk : l[k] = x := (List.getElem?_eq_some_iff.1 hx).2
  rw [List.drop_eq_getElem_cons hk, hxk]; rfl

set_option maxHeartbeats 1000000 in
theorem first_any {B : Nat} {w : World} {v : Value} {l : List ByteArray} (h : StrsAt B w v l) (hB : B ≤ w.heap.size) (hs : ∀ x ∈ l, x.size ≤ 140737488355328) (hn : l.length ≤ 4611686018427387904) :
    Calls Try.prog 18 #[v] w fun e w' => e = .returned (.int .i64 (firstE l)) ∧ Below w.heap.size w w' := by
  rcases h with ⟨rfl, a, c, rfl⟩ | ⟨g, o, c, rfl, h2, h3, h4, h5⟩
  · go_enter Try.func18, Try.ntmps18
    go_wp2_with fail
    go_loop [8] (fun i => i = .int .i64 0) (fun _ => 0)
    case atStart => rfl
    case round =>
      obtain rfl := hrel
      go_wp2_with fail
      go_ret
      exact ⟨rfl, Below.refl _ _⟩
  · have H5 := Lib.hid h5; clear h5
    have HS := Lib.hid hs; clear hs
    obtain ⟨r, hr⟩ : ∃ r, r = firstE l := ⟨_, rfl⟩
    rw [← hr]
    have HR := Lib.hid hr; clear hr
    go_enter Try.func18, Try.ntmps18
    go_wp2_with fail
    go_loopw [8] (fun i wr => ∃ k : Nat, k ≤ l.length ∧ i = .int .i64 k ∧ firstE (l.drop k) = r ∧ Below w.heap.size w wr) (fun i _ => l.length - (intOf i).toNat)
    case atStart => exact ⟨0, Nat.zero_le _, rfl, HR.out.symm, Below.refl _ _⟩
    case round =>
      obtain ⟨k, hk, rfl, hf, hb⟩ := hrel
      by_cases hlt : k < l.length
      · obtain ⟨x, hx⟩ : ∃ x, l[k]? = some x := ⟨_, List.getElem?_eq_getElem hlt⟩
        have hxs := HS.out x (List.mem_of_getElem? hx)
        have hc := (cell_below hb (Nat.lt_of_lt_of_le h4 hB) (o := o + k)).trans (H5.out k x hx)
        rw [firstE_drop l k x hx] at hf
        have HF := Lib.hid hf; clear hf
        clear hx
        go_wp2_with fail
        refine (entryName_any x hxs _).mono ?_
        rintro e w1 ⟨rfl, hb1⟩
        have hb2 := below_call hb hb1 (Nat.le_refl _)
        clear hb hb1 hc
        by_cases h0 : nameE x.data.toList = 0
        · have hf := HF.out
          rw [if_pos h0] at hf
          have HF2 := Lib.hid hf; clear hf
          rw [h0]
          have H0 := Lib.hid h0; clear h0
          go_wp2_with fail
          go_roundw
          case rel => exact ⟨k + 1, by omega, by go_num, HF2.out, hb2⟩
          case measure => simp [intOf]; omega
        · have hf := HF.out
          rw [if_neg h0] at hf
          have h1 : (nameE x.data.toList == 0) = false := by simpa using h0
          have HF2 := Lib.hid hf; clear hf
          clear h0
          generalize nameE x.data.toList = q at *
          go_wp2_with fail
          go_ret
          exact ⟨by rw [HF2.out]; rfl, hb2⟩
      · obtain rfl : k = l.length := by omega
        rw [List.drop_length] at hf
        have hr0 : r = 0 := hf.symm
        subst hr0
        clear hf
        go_wp2_with fail
        go_ret
        exact ⟨rfl, hb⟩

theorem texts_len (l m : List ByteArray) (hlm : l.length ≠ m.length) (a b : Option Addr) (c d : Nat) (w : World) :
    Calls Try.prog 12 #[.slice a l.length c, .slice b m.length d] w fun e w' => e = .returned (.bool (decide (l = m))) ∧ Below w.heap.size w w' := by
  have hne : decide (l = m) = false := dec_false (fun h => hlm (by rw [h]))
  rw [hne]
  have q : ((l.length : Int) != (m.length : Int)) = true := by simp; omega
  go_enter Try.func12, Try.ntmps12
  go_wp2_with fail
  go_ret
  exact ⟨rfl, Below.refl _ _⟩
theorem toList_inj {x y : ByteArray} (h : x.toList = y.toList) : x = y := by
  rw [ByteArray.toList_eq, ByteArray.toList_eq] at h
  cases x; cases y; simpa using h
theorem take_succ_iff (l m : List ByteArray) (k : Nat) (x y : ByteArray) (hx : l[k]? = some x) (hy : m[k]? = some y) (h : l.take k = m.take k) : (l.take (k + 1) = m.take (k + 1)) ↔ x = y := by
  rw [List.take_add_one, List.take_add_one, hx, hy, h]; simp

set_option maxHeartbeats 1000000 in
theorem texts_any {B : Nat} {w : World} {u v : Value} {l m : List ByteArray} (h : StrsAt B w u l) (h' : StrsAt B w v m) (hB : B ≤ w.heap.size) (hl : l.length ≤ 4611686018427387904) (hm : m.length ≤ 4611686018427387904) :
    Calls Try.prog 12 #[u, v] w fun e w' => e = .returned (.bool (decide (l = m))) ∧ Below w.heap.size w w' := by
  by_cases hlm : l.length = m.length
  · rcases h with ⟨rfl, a, c, rfl⟩ | ⟨g, o, c, rfl, h2, h3, h4, h5⟩
    · have hm0 : m = [] := List.eq_nil_of_length_eq_zero hlm.symm
      subst hm0
      rcases h' with ⟨_, a', c', rfl⟩ | ⟨g', o', c', rfl, h2', h3', h4', h5'⟩
      · go_enter Try.func12, Try.ntmps12
        go_wp2_with fail
        go_loop [13] (fun i => i = .int .i64 0) (fun _ => 0)
        case atStart => rfl
        case round =>
          obtain rfl := hrel
          go_wp2_with fail
          go_ret
          exact ⟨rfl, Below.refl _ _⟩
      · simp at h3'
    · rcases h' with ⟨rfl, a', c', rfl⟩ | ⟨g', o', c', rfl, h2', h3', h4', h5'⟩
      · simp at hlm; subst hlm; simp at h3
      · have H5 := Lib.hid h5; clear h5
        have H5' := Lib.hid h5'; clear h5'
        obtain ⟨r, hr⟩ : ∃ r, r = decide (l = m) := ⟨_, rfl⟩
        rw [← hr]
        have HR := Lib.hid hr; clear hr
        have q : ((l.length : Int) != (m.length : Int)) = false := by simp; omega
        go_enter Try.func12, Try.ntmps12
        go_wp2_with fail
        go_loopw [13] (fun i wr => ∃ k : Nat, k ≤ l.length ∧ i = .int .i64 k ∧ l.take k = m.take k ∧ Below w.heap.size w wr) (fun i _ => l.length - (intOf i).toNat)
        case atStart => exact ⟨0, Nat.zero_le _, rfl, rfl, Below.refl _ _⟩
        case round =>
          obtain ⟨k, hk, rfl, hf, hb⟩ := hrel
          have HF := Lib.hid hf; clear hf
          by_cases hlt : k < l.length
          · obtain ⟨x, hx⟩ : ∃ x, l[k]? = some x := ⟨_, List.getElem?_eq_getElem hlt⟩
            obtain ⟨y, hy⟩ : ∃ y, m[k]? = some y := ⟨_, List.getElem?_eq_getElem (by omega)⟩
            have hc := (cell_below hb (Nat.lt_of_lt_of_le h4 hB) (o := o + k)).trans (H5.out k x hx)
            have hc' := (cell_below hb (Nat.lt_of_lt_of_le h4' hB) (o := o' + k)).trans (H5'.out k y hy)
            have hlt' : k < m.length := by omega
            have HX := Lib.hid hx; have HY := Lib.hid hy
            clear hx hy
            go_wp2_with fail
            go_quiet (fail)
            have hbn := below_drewN hb nq
            clear hc hc'
            generalize wr.drewN nq = w' at hbn ⊢
            by_cases hxy : x = y
            · have e : (x.toList == y.toList) = true := by rw [hxy]; simp
              have hf := (take_succ_iff l m k x y HX.out HY.out HF.out).2 hxy
              have HF2 := Lib.hid hf; clear hf hxy
              rw [e, Bool.not_true]
              go_wp2_with fail
              go_roundw
              case rel => exact ⟨k + 1, by omega, by go_num, HF2.out, hbn⟩
              case measure => simp [intOf]; omega
            · have e : (x.toList == y.toList) = false := by
                rw [beq_eq_false_iff_ne]; intro h; exact hxy (toList_inj h)
              have hr0 : r = false := by
                rw [HR.out]; refine dec_false (fun h => hxy ?_)
                have h1 := HX.out; have h2 := HY.out
                rw [h] at h1; rw [h1] at h2; exact Option.some.inj h2
              subst hr0
              clear hxy
              rw [e, Bool.not_false]
              go_wp2_with fail
              go_ret
              exact ⟨rfl, hbn⟩
          · obtain rfl : k = l.length := by omega
            have hr1 : r = true := by
              rw [HR.out]; have := HF.out
              rw [List.take_length, hlm, List.take_length] at this
              exact dec_true this
            subst hr1
            go_wp2_with fail
            go_ret
            exact ⟨rfl, hb⟩
  · have hu : ∃ a c, u = .slice a l.length c := by
      rcases h with ⟨rfl, a, c, rfl⟩ | ⟨g, o, c, rfl, _⟩
      · exact ⟨a, c, rfl⟩
      · exact ⟨_, c, rfl⟩
    have hv : ∃ a c, v = .slice a m.length c := by
      rcases h' with ⟨rfl, a, c, rfl⟩ | ⟨g, o, c, rfl, _⟩
      · exact ⟨a, c, rfl⟩
      · exact ⟨_, c, rfl⟩
    obtain ⟨a, c, rfl⟩ := hu
    obtain ⟨b, d, rfl⟩ := hv
    exact texts_len l m hlm a b c d w
end Go.Proofs.Ytpgeldhleikcdaa
