/- Walks of entry.Name and marlref07.Name, and of what they call of the library: which texts are names. -/
/- Walk of entry.Name (entry/XE6 without the reference, for a seat that has none). -/
import Derived.Test.YtoofcnehoffllaaBase
import Derived.Test.YtoofcnehoffllaaShelf
import Derived.Laws.Runes
import Derived.Laws.RangeAny
import Derived.Deep.LoopGhost
import Derived.Lib.OthersKept
import Derived.Lib.SpaceUEq
namespace Go.Proofs.Ytoofcnehoffllaa
open Go.RowKit


set_option maxRecDepth 100000 in
theorem indexRune_slash (r : Int) (h128 : 128 ≤ r) (hr : r ≤ 2147483647) (w : World) :
    Calls Try.prog 87 #[.string ⟨#[47, 0]⟩, .int .i32 r] w fun e w' => e = .returned (.int .i64 (-1)) ∧ Below w.heap.size w w' := by
  have q0 : decide (r < 128) = false := dec_false (by omega)
  by_cases hE : r = 65533
  · subst hE
    have n0 := fun (w : World) ty => run_next_ascii (P := Try.prog) w ⟨#[47, 0]⟩ 0 ty (by decide) (by decide)
    have n1 := fun (w : World) ty => run_next_ascii (P := Try.prog) w ⟨#[47, 0]⟩ 1 ty (by decide) (by decide)
    have n2 := fun (w : World) ty => run_next_end (P := Try.prog) w ⟨#[47, 0]⟩ 2 ty (by decide)
    go_enter Try.func87, Try.ntmps87
    go_wp2_with fail
    refine wp_loop_rounds 3 ?_
    rw [rounds_succ]
    go_wp2_with fail
    rw [rounds_succ]
    go_wp2_with fail
    rw [rounds_succ]
    go_wp2_with fail
    go_ret
    exact ⟨rfl, (Below.refl _ _).alloc (Nat.le_refl _) _⟩
  · have q1 : (r == 65533) = false := beq_eq_false_iff_ne.2 hE
    cases hv : Lib.validRune r
    · have HV := Lib.hid hv; clear hv
      go_enter Try.func87, Try.ntmps87
      go_wp2_with (go_at_call 92; refine (Try.utf8_ValidRune _ _).mono ?_; rintro e w' ⟨rfl, rfl⟩; rw [HV.out])
      go_ret
      exact ⟨rfl, Below.refl _ _⟩
    · obtain ⟨hs1, hs2, hlast⟩ := encode_facts r (by rw [validRune_eq]; exact hv) h128
      have HV := Lib.hid hv; clear hv
      obtain ⟨t, ht⟩ : ∃ t, Utf8.encode r = t := ⟨_, rfl⟩
      rw [ht] at hs1 hs2 hlast
      by_cases h2 : t.size = 2
      · obtain ⟨a, b, rfl⟩ : ∃ a b, t = ⟨#[a, b]⟩ := by
          obtain ⟨⟨l⟩⟩ := t
          match l, h2 with
          | [a, b], _ => exact ⟨a, b, rfl⟩
        have hb : 128 ≤ b.toNat := hlast (by show 1 < 2; omega)
        have q2 : (((((⟨#[47, 0]⟩ : ByteArray)[1]'(by decide)).toNat : Nat) : Int) != ((((⟨#[a, b]⟩ : ByteArray)[1]'(by show 1 < 2; omega)).toNat : Nat) : Int)) = true := by
          show (((0 : Nat) : Int) != ((b.toNat : Nat) : Int)) = true
          rw [bne_iff_ne]; omega
        clear hlast hs1 hs2 h2
        go_enter Try.func87, Try.ntmps87
        go_wp2_with (go_at_call 92; refine (Try.utf8_ValidRune _ _).mono ?_; rintro e w' ⟨rfl, rfl⟩; rw [HV.out])
        go_step3
        go_wp2_with fail
        refine wp_loop_once ?_
        go_wp2_with fail
        go_step3
        go_wp2_with fail
        go_quiet (fail)
        have hbw : Below w'.heap.size w' (w'.drewN nq) := below_drewN (Below.refl _ _) _
        generalize w'.drewN nq = w1 at hbw ⊢
        go_wp2_with fail
        go_quiet ((go_at_call 91; exact Calls.quiet_of_same (Try.strings_IndexByte _ _ _)))
        go_wp2_with fail
        rw [Exit.noGoto_ret]
        go_wp2_with fail
        rw [Exit.noGoto_ret]
        go_wp2_with fail
        go_ret
        exact ⟨rfl, below_drewN hbw _⟩
      · have h3 : 3 ≤ t.size := by omega
        clear hlast hs1 h2
        go_enter Try.func87, Try.ntmps87
        go_wp2_with (go_at_call 92; refine (Try.utf8_ValidRune _ _).mono ?_; rintro e w' ⟨rfl, rfl⟩; rw [HV.out])
        go_step3
        go_wp2_with fail
        refine wp_loop_once ?_
        go_wp2_with fail
        repeat (first | rw [Exit.noGoto_ret] | simp only [Exit.inBlock])
        go_ret
        exact ⟨rfl, Below.refl _ _⟩

theorem indexByte_slash (x : UInt8) (h : x.toNat < 128) : decide ((0 : Int) ≤ Lib.indexByte [47, 0] x) = (x == 47 || x == 0) := by
  have : ∀ n : Fin 128, decide ((0 : Int) ≤ Lib.indexByte [47, 0] (UInt8.ofNat n.1)) = (UInt8.ofNat n.1 == 47 || UInt8.ofNat n.1 == 0) := by decide +kernel
  have h2 := this ⟨x.toNat, h⟩
  simpa using h2

def IsIdx (b : Bool) (w : World) (e : Ending) (w' : World) : Prop := ∃ i : Int, e = .returned (.int .i64 i) ∧ decide (0 ≤ i) = b ∧ Below w.heap.size w w'
theorem indexRune_any (r : Int) (h0 : 0 ≤ r) (hr : r ≤ 2147483647) (w : World) :
    Calls Try.prog 87 #[.string ⟨#[47, 0]⟩, .int .i32 r] w (IsIdx (decide (r = 47 ∨ r = 0)) w) := by
  by_cases h : r < 128
  · refine (Try.strings_IndexRune_ascii _ r w h0 h).mono ?_
    rintro e w' ⟨rfl, rfl⟩
    refine ⟨_, rfl, ?_, Below.refl _ _⟩
    have h1 := indexByte_slash r.toNat.toUInt8 (by simp; omega)
    show decide ((0 : Int) ≤ Lib.indexByte [47, 0] r.toNat.toUInt8) = _
    rw [h1]
    obtain ⟨n, rfl⟩ := Int.eq_ofNat_of_zero_le h0
    have : ∀ n : Fin 128, ((n.1.toUInt8 == 47) || (n.1.toUInt8 == 0)) = decide ((n.1 : Int) = 47 ∨ (n.1 : Int) = 0) := by decide +kernel
    simpa using this ⟨n, by omega⟩
  · refine (indexRune_slash r (by omega) hr w).mono ?_
    rintro e w' ⟨rfl, hb⟩
    exact ⟨_, rfl, by rw [decide_eq_false (by omega), decide_eq_false (by omega)], hb⟩

/-- Any one of the bytes of s is '/' or nought. -/
def hasBad (l : List UInt8) : Bool := l.any fun x => x == 47 || x == 0
def NoBad (l : List UInt8) (i : Nat) : Prop := ∀ (j : Nat) (x : UInt8), j < i → l[j]? = some x → (x == 47 || x == 0) = false
theorem NoBad.all {l : List UInt8} (h : NoBad l l.length) : hasBad l = false := by
  unfold hasBad
  rw [List.any_eq_false]
  intro x hx
  obtain ⟨j, hj, hjx⟩ := List.getElem_of_mem hx
  have := h j x hj (by rw [List.getElem?_eq_getElem hj, hjx])
  simpa using this
theorem hasBad_at {l : List UInt8} {i : Nat} {x : UInt8} (h : l[i]? = some x) (hx : (x == 47 || x == 0) = true) : hasBad l = true := by
  unfold hasBad
  exact List.any_eq_true.2 ⟨x, List.mem_of_getElem? h, hx⟩
theorem decode_skip (s : ByteArray) (i : Nat) (h : i < s.size) : i + (Utf8.decode s i).2 ≤ s.size ∧ ∀ (j : Nat) (x : UInt8), i < j → j < i + (Utf8.decode s i).2 → s.data.toList[j]? = some x → 128 ≤ x.toNat := by
  have hsz : s.data.toList.length = s.size := (Lib.size_eq s).symm
  have hc := Lib.decodeN_conts (s.data.toList.length - i) (s.data.toList.getD i 0).toNat (s.data.toList.getD (i + 1) 0).toNat (s.data.toList.getD (i + 2) 0).toNat (s.data.toList.getD (i + 3) 0).toNat
  rw [← Lib.decode_N s i] at hc
  obtain ⟨h1, h2, h3, h4⟩ := hc
  generalize (Utf8.decode s i).2 = d at *
  refine ⟨by omega, fun j x hj hd hx => ?_⟩
  have hg : s.data.toList.getD j 0 = x := by rw [List.getD_eq_getElem?_getD, hx]; rfl
  rcases (by omega : j = i + 1 ∨ j = i + 2 ∨ j = i + 3) with rfl | rfl | rfl
  · rw [hg] at h1; omega
  · rw [hg] at h2; omega
  · rw [hg] at h3; omega

set_option maxRecDepth 100000 in
/-- strings.IndexAny(s, "/\x00") of a short text: whether it is there. -/
theorem indexAny_short (s : ByteArray) (h8 : s.size ≤ 8) (w : World) :
    Calls Try.prog 86 #[.string s, .string ⟨#[47, 0]⟩] w fun e w' => Ret1 (fun x => ∃ i : Int, x = .int .i64 i ∧ decide (0 ≤ i) = hasBad s.data.toList) e ∧ Below w.heap.size w w' := by
  have q8 : decide ((8 : Int) < (s.size : Int)) = false := dec_false (by omega)
  have Q8 := Lib.hid q8; clear q8
  have hsz : s.data.toList.length = s.size := (Lib.size_eq s).symm
  have HS := Lib.hid hsz; clear hsz
  go_enter Try.func86, Try.ntmps86
  go_wp2_with (go_at_call 88; refine (Try.strings_shouldUseASCIISet _ _).mono ?_; rintro e w1 ⟨rfl, hw⟩; rw [Q8.out]; have hw' := hw.symm; subst hw')
  go_loopg [9, 10] s.size (fun g _ _ wx => ∃ i : Nat, i ≤ s.size ∧ s.size - i = g ∧ wx.heap[w.heap.size]? = some (.stringIter s i) ∧ Below w.heap.size w wx ∧ NoBad s.data.toList i)
  case atStart => exact ⟨0, by omega, by omega, blk_new rfl, (Below.refl _ _).alloc (Nat.le_refl _) _, fun j x hj => by omega⟩
  case round =>
    obtain ⟨i, hi, hig, hit, hbel, hno⟩ := hrel
    by_cases hlt : i < s.size
    · obtain ⟨hd1, hd2⟩ := decode_skip s i hlt
      obtain ⟨x, hx⟩ : ∃ x : UInt8, s[i]'hlt = x := ⟨_, rfl⟩
      have hxl : s.data.toList[i]? = some x := by rw [← hx]; exact Lib.data_getElem? s i hlt
      have hsize := blk_lt hit
      by_cases h128 : x.toNat < 128
      · have hnx := fun ty => Lib.run_next_ascii_at (P := Try.prog) _ _ s i ty hit hlt (by rw [hx]; exact h128)
        rw [hx] at hnx
        have HIT := Lib.hid (Lib.iterAt_heap _ _ s i (i + 1) hit)
        have HB := Lib.hid (Lib.below_iterAt hbel (Nat.le_refl _) s (i + 1))
        have HXL := Lib.hid hxl
        have HNO := Lib.hid hno
        have hbx : decide ((x.toNat : Int) = 47 ∨ (x.toNat : Int) = 0) = (x == 47 || x == 0) := by
          have : ∀ n : Fin 128, ((UInt8.ofNat n.1 == 47) || (UInt8.ofNat n.1 == 0)) = decide ((n.1 : Int) = 47 ∨ (n.1 : Int) = 0) := by decide +kernel
          have h2 := this ⟨x.toNat, h128⟩
          simpa using h2.symm
        have HBX := Lib.hid hbx
        clear hxl hno hd1 hd2 hx hit hbel hbx
        go_wp2_with fail
        refine (indexRune_any _ (by omega) (by omega) _).mono ?_
        rintro e w2 ⟨q, rfl, hq, hb2⟩
        rw [HBX.out] at hq
        cases hbad : (x == 47 || x == 0)
        · rw [hbad] at hq
          have HBAD := Lib.hid hbad; clear hbad
          clear hnx
          go_wp2_with fail
          go_roundg (s.size - (i + 1))
          case rel =>
            refine ⟨i + 1, by omega, rfl, ?_, below_call HB.out hb2 (Nat.le_refl _), ?_⟩
            · exact blk_below hb2 (blk_lt HIT.out) HIT.out
            · intro j y hj hy
              by_cases hji : j = i
              · subst hji; rw [HXL.out] at hy; cases hy; exact HBAD.out
              · exact HNO.out j y (by omega) hy
          all_goals omega
        · rw [hbad] at hq
          have hh := hasBad_at HXL.out hbad
          have HH := Lib.hid hh
          clear hnx hh hbad
          go_wp2_with fail
          go_ret
          exact ⟨⟨_, rfl, _, rfl, by rw [HH.out]; simp⟩, below_call HB.out hb2 (Nat.le_refl _)⟩
      · have hnx := fun ty => Lib.run_next_any_at (P := Try.prog) _ _ s i ty hit hlt
        obtain ⟨hr1, hw1⟩ := decode_high s i hlt (by rw [hx]; omega)
        have hr2 := decode_le s i
        have HIT := Lib.hid (Lib.iterAt_heap _ _ s i (i + (Utf8.decode s i).2) hit)
        have HB := Lib.hid (Lib.below_iterAt hbel (Nat.le_refl _) s (i + (Utf8.decode s i).2))
        generalize (Utf8.decode s i).2 = d at *
        generalize (Utf8.decode s i).1 = r at *
        have HXL := Lib.hid hxl
        have HNO := Lib.hid hno
        have HD := Lib.hid hd2
        clear hxl hno hd2 hx hit hbel
        go_wp2_with fail
        refine (indexRune_any _ (by omega) (by omega) _).mono ?_
        rintro e w2 ⟨q, rfl, hq, hb2⟩
        have hf : decide ((r : Int) = 47 ∨ (r : Int) = 0) = false := dec_false (by omega)
        rw [hf] at hq
        clear hnx hf
        go_wp2_with fail
        go_roundg (s.size - (i + d))
        case rel =>
          refine ⟨i + d, hd1, rfl, ?_, below_call HB.out hb2 (Nat.le_refl _), ?_⟩
          · exact blk_below hb2 (blk_lt HIT.out) HIT.out
          · intro j y hj hy
            by_cases hji : j < i
            · exact HNO.out j y hji hy
            · have hy128 : 128 ≤ y.toNat := by
                by_cases hje : j = i
                · subst hje; rw [HXL.out] at hy; cases hy; omega
                · exact HD.out j y (by omega) hj hy
              have h47 : (y == 47) = false := beq_eq_false_iff_ne.2 (by rintro rfl; revert hy128; decide)
              have h0 : (y == 0) = false := beq_eq_false_iff_ne.2 (by rintro rfl; revert hy128; decide)
              rw [h47, h0]; rfl
        all_goals omega
    · obtain rfl : i = s.size := by omega
      have hnx := fun ty => Lib.run_next_end_at (P := Try.prog) _ _ s s.size ty hit (by omega)
      have HS' := HS.out
      have hfin := NoBad.all (by rw [HS']; exact hno)
      have HF := Lib.hid hfin
      clear hfin hno hit HS'
      go_wp2
      go_ret
      exact ⟨⟨_, rfl, _, rfl, by rw [HF.out]; rfl⟩, hbel⟩

theorem hasBad_iff (l : List UInt8) : decide ((0 : Int) ≤ Lib.indexAny l [47, 0]) = hasBad l := by
  induction l with
  | nil => rfl
  | cons b l ih =>
    unfold Lib.indexAny
    have hge := Lib.indexAny_ge [47, 0] l
    have hb : ([47, 0] : List UInt8).contains b = (b == 47 || b == 0) := by simp only [List.contains_cons, List.contains_nil, Bool.or_false]
    rw [hb]
    simp only [hasBad, List.any_cons]
    cases hq : (b == 47 || b == 0)
    · rw [Bool.false_or]
      show _ = hasBad l
      rw [← ih]
      simp only [Bool.false_eq_true, if_false]
      split
      · rename_i h; have := eq_of_beq h; rw [this]
      · rename_i h; have : Lib.indexAny l [47, 0] ≠ -1 := fun e => h (beq_iff_eq.2 e)
        rw [Bool.eq_iff_iff]; simp only [decide_eq_true_eq]; omega
    · simp

theorem indexAny_long (s : ByteArray) (h8 : 8 < s.size) (hs : s.size < 4294967281) (w : World) :
    Calls Try.prog 86 #[.string s, .string ⟨#[47, 0]⟩] w fun e w' => Ret1 (fun x => ∃ i : Int, x = .int .i64 i ∧ decide (0 ≤ i) = hasBad s.data.toList) e ∧ Below w.heap.size w w' := by
  refine (Try.strings_IndexAny_long (zero_of_info (v := .agg (Array.replicate 256 (.bool false))) (n := 256) (by kernel_rfl)).1 s ⟨#[47, 0]⟩ w (by decide) h8 hs (by decide) ?_).mono ?_
  · intro j b hb
    match j, hb with
    | 0, hb => cases hb; decide
    | 1, hb => cases hb; decide
    | j + 2, hb => cases hb
  · rintro e w' ⟨rfl, rfl⟩
    exact ⟨⟨_, rfl, _, rfl, hasBad_iff _⟩, ((Below.refl _ _).alloc (Nat.le_refl _) _).alloc (by simp) _⟩

theorem containsAny_any (s : ByteArray) (hs : s.size < 4294967281) (w : World) :
    Calls Try.prog 84 #[.string s, .string ⟨#[47, 0]⟩] w fun e w' => e = .returned (.bool (hasBad s.data.toList)) ∧ Below w.heap.size w w' := by
  have c : Calls Try.prog 86 #[.string s, .string ⟨#[47, 0]⟩] w fun e w' => Ret1 (fun x => ∃ i : Int, x = .int .i64 i ∧ decide (0 ≤ i) = hasBad s.data.toList) e ∧ Below w.heap.size w w' := by
    by_cases h8 : s.size ≤ 8
    · exact indexAny_short s h8 w
    · exact indexAny_long s (by omega) hs w
  have C := Lib.hid c; clear c
  go_enter Try.func84, Try.ntmps84
  go_wp2_with fail
  refine C.out.mono ?_
  rintro e w1 ⟨⟨x, rfl, i, rfl, hi⟩, hb⟩
  have HI := Lib.hid hi; clear hi
  go_wp2_with fail
  go_ret
  exact ⟨by rw [← HI.out]; rfl, hb⟩
end Go.Proofs.Ytoofcnehoffllaa

namespace Go.Proofs.Ytoofcnehoffllaa
open Go.RowKit

/-- What is wrong with a name: 36 it is too long, 22 it is none, 0 nothing. -/
def nameE (l : List UInt8) : Int := if 14 < l.length then 36 else if (l.isEmpty || l == [46] || l == [46, 46] || hasBad l) then 22 else 0

theorem entryName_any (s : ByteArray) (hs : s.size ≤ 140737488355328) (w : World) :
    Calls Try.prog 75 #[.string s] w fun e w' => e = .returned (.int .i64 (nameE s.data.toList)) ∧ Below w.heap.size w w' := by
  have hl := Lib.size_eq s
  obtain ⟨r, hr⟩ : ∃ r, r = nameE s.data.toList := ⟨_, rfl⟩
  rw [← hr]
  unfold nameE at hr
  by_cases h14 : 14 < s.size
  · rw [if_pos (by omega)] at hr
    have HR := Lib.hid hr; clear hr
    clear hl
    go_enter Try.func75, Try.ntmps75
    go_wp2_with fail
    go_ret
    exact ⟨by rw [HR.out]; rfl, Below.refl _ _⟩
  · rw [if_neg (by omega)] at hr
    have hc := containsAny_any s (by omega) w
    have HC := Lib.hid hc
    clear hc hl
    have ht := ByteArray.toList_eq s
    rw [← ht] at hr
    have HR := Lib.hid hr; clear hr ht
    cases e1 : s.toList.isEmpty
    · cases e2 : (s.toList == [46])
      · cases e3 : (s.toList == [46, 46])
        · have E1 := Lib.hid e1; have E2 := Lib.hid e2; have E3 := Lib.hid e3
          go_enter Try.func75, Try.ntmps75
          go_wp2_with fail
          refine HC.out.mono ?_
          rintro e w' ⟨rfl, hb⟩
          have hbt : s.toList = s.data.toList := ByteArray.toList_eq s
          rw [← hbt]
          cases hbad : hasBad s.toList
          all_goals
            have HB := Lib.hid hbad; clear hbad hbt
            go_wp2_with fail
            go_ret
            exact ⟨by rw [HR.out, E1.out, E2.out, E3.out, HB.out]; rfl, hb⟩
        · have hne : s.toList ≠ [] := by rw [eq_of_beq e3]; simp
          have E1 := Lib.hid e1; have E2 := Lib.hid e2; have E3 := Lib.hid e3
          clear hne
          go_enter Try.func75, Try.ntmps75
          go_wp2_with fail
          go_ret
          exact ⟨by rw [HR.out, E1.out, E2.out, E3.out]; simp, Below.refl _ _⟩
      · have E1 := Lib.hid e1; have E2 := Lib.hid e2
        go_enter Try.func75, Try.ntmps75
        go_wp2_with fail
        go_ret
        exact ⟨by rw [HR.out, E1.out, E2.out]; simp, Below.refl _ _⟩
    · have E1 := Lib.hid e1
      go_enter Try.func75, Try.ntmps75
      go_wp2_with fail
      go_ret
      exact ⟨by rw [HR.out, E1.out]; simp, Below.refl _ _⟩
end Go.Proofs.Ytoofcnehoffllaa
