/- Walk of the statement NameWithin of chapter 8: it returns true. -/
import Derived.Test.YtpgeldhleikcdaaN8
namespace Go.Proofs.Ytpgeldhleikcdaa
open Go.RowKit

theorem StrsAt.cells {B : Nat} {w : World} {a : Option Addr} {n c : Nat} {l : List ByteArray} (h : StrsAt B w (.slice a n c) l) (hn : 0 < l.length) :
    ∃ g o, a = some ⟨g, o, none⟩ ∧ n = l.length ∧ l.length ≤ c ∧ g < B ∧ ∀ j x, l[j]? = some x → w.cell? ⟨g, o + j, none⟩ = some (.string x) := by
  rcases h with ⟨rfl, _⟩ | ⟨g, o, c', h1, h2, _, h4, h5⟩
  · simp at hn
  · injection h1 with e1 e2 e3
    subst e3
    exact ⟨g, o, e1, e2, h2, h4, h5⟩
def bgs (l m : List ByteArray) (k : Nat) : Bool := decide (l.length ≤ m.length) && decide (l.take k = m.take k)
theorem bgs_zero (l m : List ByteArray) : bgs l m 0 = decide (l.length ≤ m.length) := by simp [bgs]
theorem bgs_same {l m : List ByteArray} {k : Nat} {x : ByteArray} (hx : l[k]? = some x) (hy : m[k]? = some x) (h : bgs l m k = true) : bgs l m (k + 1) = true := by
  unfold bgs at h ⊢
  rw [Bool.and_eq_true, decide_eq_true_eq, decide_eq_true_eq] at h ⊢
  exact ⟨h.1, (take_succ_iff l m k x x hx hy h.2).2 rfl⟩
theorem bgs_diff {l m : List ByteArray} {k : Nat} {x y : ByteArray} (hx : l[k]? = some x) (hy : m[k]? = some y) (h : x ≠ y) : bgs l m (k + 1) = false := by
  unfold bgs
  rw [Bool.and_eq_false_iff]
  right
  refine dec_false (fun he => h ?_)
  have h1 : (l.take (k + 1))[k]? = some x := by rw [List.getElem?_take, if_pos (Nat.lt_succ_self k), hx]
  have h2 : (m.take (k + 1))[k]? = some y := by rw [List.getElem?_take, if_pos (Nat.lt_succ_self k), hy]
  rw [he] at h1; rw [h1] at h2; exact Option.some.inj h2
theorem bgs_stay {l m : List ByteArray} {k : Nat} (h : bgs l m k = false) : bgs l m (k + 1) = false := by
  unfold bgs at h ⊢
  rw [Bool.and_eq_false_iff, decide_eq_false_iff_not, decide_eq_false_iff_not] at h ⊢
  rcases h with h | h
  · exact .inl h
  · right; intro he; apply h
    have := congrArg (List.take k) he
    simpa [List.take_take] using this
theorem bgs_end {l m : List ByteArray} {k : Nat} (hk : k ≤ l.length) (hk' : k ≤ m.length) (h : ¬ (k < l.length ∧ k < m.length)) : bgs l m k = isPre l m := by
  unfold bgs isPre
  by_cases hlm : l.length ≤ m.length
  · have : k = l.length := by omega
    rw [this, List.take_length, dec_true hlm, Bool.true_and]
  · rw [dec_false hlm, Bool.false_and]
    symm; refine dec_false (fun he => hlm ?_)
    have := congrArg List.length he
    rw [List.length_take] at this; omega
theorem isPre_self (l : List ByteArray) : isPre l l = true := by unfold isPre; rw [List.take_length]; exact dec_true rfl
theorem isPre_nil (l : List ByteArray) : isPre [] l = true := by unfold isPre; simp
theorem isPre_take (l : List ByteArray) (i : Nat) (hi : i < l.length) : isPre (l.take i) l = true := by
  unfold isPre; refine dec_true ?_
  rw [List.length_take, Nat.min_eq_left (Nat.le_of_lt hi)]
theorem isPre_take' (l : List ByteArray) (i : Nat) (hi : i < l.length) : isPre l (l.take i) = false := by
  unfold isPre; refine dec_false (fun he => ?_)
  have := congrArg List.length he
  rw [List.length_take, List.length_take] at this; omega
theorem StrsAt.nilOf {w : World} : StrsAt 0 w (.slice none 0 0) [] := .nil

set_option maxHeartbeats 4000000 in
theorem lawWithin_any {W : World} {u v : Value} {l m : List ByteArray} (hu : StrsAt W.heap.size W u l) (hv : StrsAt W.heap.size W v m) :
    Calls Try.prog 5 #[u, v] W fun e w' => e = .returned (.bool true) ∧ Below W.heap.size W w' := by
  obtain ⟨a, c, rfl⟩ := hu.shape
  obtain ⟨b, d, rfl⟩ := hv.shape
  have HU := Lib.hid hu; have HV := Lib.hid hv
  clear hu hv
  by_cases hbig : 100 < l.length ∨ 100 < m.length
  · have hq : decide ((100 : Int) < (l.length : Int)) = true ∨ (decide ((100 : Int) < (l.length : Int)) = false ∧ decide ((100 : Int) < (m.length : Int)) = true) := by
      by_cases h : 100 < l.length
      · exact .inl (dec_true (by omega))
      · exact .inr ⟨dec_false (by omega), dec_true (by omega)⟩
    clear hbig
    rcases hq with q1 | ⟨q1, q2⟩
    all_goals
      go_enter Try.func5, Try.ntmps5
      go_wp2_with fail
      refine (awake_any _).mono ?_
      rintro e w1 ⟨rfl, hb1⟩
      go_wp2_with fail
      refine (awake_any _).mono ?_
      rintro e w2 ⟨rfl, hb2⟩
      have hb := below_call hb1 hb2 (Nat.le_refl _)
      go_wp2_with fail
      go_ret
      exact ⟨rfl, hb⟩
  · have hl : l.length ≤ 100 := by omega
    have hm : m.length ≤ 100 := by omega
    have q1 : decide ((100 : Int) < (l.length : Int)) = false := dec_false (by omega)
    have q2 : decide ((100 : Int) < (m.length : Int)) = false := dec_false (by omega)
    clear hbig
    go_enter Try.func5, Try.ntmps5
    go_wp2_with fail
    refine (awake_any _).mono ?_
    rintro e w1 ⟨rfl, hb1⟩
    go_wp2_with fail
    go_loopw [5, 6] (fun t i wr => ∃ k : Nat, k ≤ l.length ∧ k ≤ m.length ∧ i = .int .i64 k ∧ t = .bool (bgs l m k) ∧ Below W.heap.size W wr) (fun _ i _ => l.length - (intOf i).toNat)
    case atStart => exact ⟨0, Nat.zero_le _, Nat.zero_le _, rfl, by rw [bgs_zero], hb1⟩
    case round =>
      obtain ⟨k, hk, hk', rfl, rfl, hbel⟩ := hrel
      clear hb1
      by_cases hlt : k < l.length ∧ k < m.length
      · obtain ⟨h1, h2⟩ := hlt
        obtain ⟨x, hx⟩ : ∃ x, l[k]? = some x := ⟨_, List.getElem?_eq_getElem h1⟩
        obtain ⟨y, hy⟩ : ∃ y, m[k]? = some y := ⟨_, List.getElem?_eq_getElem h2⟩
        have hu := HU.out; have hv := HV.out
        obtain ⟨g, o, rfl, _, _, hg, hcl⟩ := hu.cells (by omega)
        obtain ⟨g', o', rfl, _, _, hg', hcl'⟩ := hv.cells (by omega)
        have hc := (cell_below hbel hg (o := o + k)).trans (hcl k x hx)
        have hc' := (cell_below hbel hg' (o := o' + k)).trans (hcl' k y hy)
        have HX := Lib.hid hx; have HY := Lib.hid hy
        clear hx hy hcl hcl' hu hv
        cases hbg : bgs l m k
        · have HB := Lib.hid (bgs_stay hbg)
          clear hbg
          go_wp2_with fail
          go_quiet (fail)
          have hbn := below_drewN hbel nq
          clear hc hc' hbel
          generalize wr.drewN nq = w' at hbn ⊢
          go_wp2_with fail
          go_roundw
          case rel => exact ⟨k + 1, by omega, by omega, by go_num, by rw [HB.out], hbn⟩
          case measure => simp [intOf]; omega
        · by_cases hxy : x = y
          · have e : (x.toList == y.toList) = true := by rw [hxy]; simp
            have HB := Lib.hid (bgs_same HX.out (hxy ▸ HY.out) hbg)
            clear hbg hxy
            go_wp2_with fail
            go_quiet (fail)
            have hbn := below_drewN hbel nq
            clear hc hc' hbel
            generalize wr.drewN nq = w' at hbn ⊢
            go_wp2_with fail
            go_roundw
            case rel => exact ⟨k + 1, by omega, by omega, by go_num, by rw [HB.out], hbn⟩
            case measure => simp [intOf]; omega
          · have e : (x.toList == y.toList) = false := by
              rw [beq_eq_false_iff_ne]; intro h; exact hxy (toList_inj h)
            have HB := Lib.hid (bgs_diff HX.out HY.out hxy)
            clear hbg hxy
            go_wp2_with fail
            go_quiet (fail)
            have hbn := below_drewN hbel nq
            clear hc hc' hbel
            generalize wr.drewN nq = w' at hbn ⊢
            go_wp2_with fail
            go_roundw
            case rel => exact ⟨k + 1, by omega, by omega, by go_num, by rw [HB.out], hbn⟩
            case measure => simp [intOf]; omega
      · have hend := bgs_end hk hk' hlt
        have hq : ¬ k < l.length ∨ (k < l.length ∧ ¬ k < m.length) := by omega
        have w1' := fun (w' : World) (hb : Below W.heap.size W w') => within_any (HU.out.below hb) (HV.out.below hb) (by omega) (by omega)
        have w2' := fun (w' : World) (hb : Below W.heap.size W w') => within_any (HU.out.below hb) (HU.out.below hb) (by omega) (by omega)
        have w3' := fun (w' : World) (hb : Below W.heap.size W w') => within_any (StrsAt.nil (w := w')) (HV.out.below hb) (by decide) (by omega)
        rw [isPre_self] at w2'
        rw [isPre_nil] at w3'
        rw [hend]
        have W1 := Lib.hid w1'; have W2 := Lib.hid w2'; have W3 := Lib.hid w3'
        clear w1' w2' w3' hend hlt
        generalize isPre l m = r at *
        have qr : (r != r) = false := by simp
        rcases hq with q4 | ⟨q4, q5⟩
        all_goals
          go_wp2_with fail
          refine (W1.out _ hbel).mono ?_
          rintro e w2 ⟨rfl, hb2⟩
          have hbel2 := below_call hbel hb2 (Nat.le_refl _)
          clear hb2
          go_wp2_with fail
          refine (W2.out _ hbel2).mono ?_
          rintro e w3 ⟨rfl, hb3⟩
          have hbel3 := below_call hbel2 hb3 (Nat.le_refl _)
          clear hb3 hbel2
          go_wp2_with fail
          refine (W3.out _ hbel3).mono ?_
          rintro e w4 ⟨rfl, hb4⟩
          have hbel4 := below_call hbel3 hb4 (Nat.le_refl _)
          clear hb4 hbel3
          go_wp2_with fail
          go_loopw [68] (fun i wr => ∃ k : Nat, k ≤ m.length ∧ i = .int .i64 k ∧ Below W.heap.size W wr) (fun i _ => m.length - (intOf i).toNat)
          case atStart => exact ⟨0, Nat.zero_le _, rfl, hbel4⟩
          case round =>
            obtain ⟨i, hi, rfl, hbx⟩ := hrel
            clear hbel hbel4 W1 W2 W3
            by_cases hlt : i < m.length
            · have hv := HV.out
              obtain ⟨g', o', rfl, _, hmd, hg', hcl'⟩ := hv.cells (by omega)
              have v1 := fun (w' : World) (hb : Below W.heap.size W w') => within_any ((StrsAt.take i (Nat.le_of_lt hlt) hmd hg' hcl').below hb) (HV.out.below hb) (by rw [List.length_take]; omega) (by omega)
              have v2 := fun (w' : World) (hb : Below W.heap.size W w') => within_any (HV.out.below hb) ((StrsAt.take i (Nat.le_of_lt hlt) hmd hg' hcl').below hb) (by omega) (by rw [List.length_take]; omega)
              rw [isPre_take m i hlt] at v1
              rw [isPre_take' m i hlt] at v2
              have V1 := Lib.hid v1; have V2 := Lib.hid v2
              have m0 : (0 : Int) ≤ (i : Int) := by omega
              have m1 : (i : Int) ≤ (d : Int) := by omega
              have m2 : i ≤ d := by omega
              clear v1 v2 hcl' hv
              go_wp2_with fail
              refine (V1.out _ hbx).mono ?_
              rintro e w5 ⟨rfl, hb5⟩
              have hbel5 := below_call hbx hb5 (Nat.le_refl _)
              clear hb5
              go_wp2_with fail
              refine (V2.out _ hbel5).mono ?_
              rintro e w6 ⟨rfl, hb6⟩
              have hbel6 := below_call hbel5 hb6 (Nat.le_refl _)
              clear hb6 hbel5 hbx
              go_wp2_with fail
              go_roundw
              case rel => exact ⟨i + 1, by omega, by go_num, hbel6⟩
              case measure => simp [intOf]; omega
            · obtain rfl : i = m.length := by omega
              go_wp2_with fail
              go_ret
              exact ⟨rfl, hbx⟩
end Go.Proofs.Ytpgeldhleikcdaa
