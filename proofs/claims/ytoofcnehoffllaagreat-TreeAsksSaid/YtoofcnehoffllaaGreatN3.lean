/- Walks of entry.Name and marlref07.Name, and of what they call of the library: which texts are names. -/
/- Walks of entry.Name and marlref07.Name: both are nameE, a plain function. No condition but that the text is in the form's reach. -/
/- Lists of texts as slices; walks of name.first (firstE) and marlref01.Texts (equality). -/
/- Plain laws: the pieces of a path between '/' bytes; what strings.FieldsFunc gives at '/' is these. -/
/- Walk of name.Split: a path's pieces, whether it ends in '/', the error. -/
import Derived.Test.YtoofcnehoffllaaGreatBase
import Derived.Test.YtoofcnehoffllaaGreatShelf
import Derived.Laws.Runes
import Derived.Laws.RangeAny
import Derived.Deep.LoopGhost
import Derived.Lib.OthersKept
import Derived.Lib.SpaceUEq
namespace Go.Proofs.YtoofcnehoffllaaGreat
open Go.RowKit


set_option maxRecDepth 100000 in
theorem indexRune_slash (r : Int) (h128 : 128 ≤ r) (hr : r ≤ 2147483647) (w : World) :
    Calls Tryz.prog 106 #[.string ⟨#[47, 0]⟩, .int .i32 r] w fun e w' => e = .returned (.int .i64 (-1)) ∧ Below w.heap.size w w' := by
  have q0 : decide (r < 128) = false := dec_false (by omega)
  by_cases hE : r = 65533
  · subst hE
    have n0 := fun (w : World) ty => run_next_ascii (P := Tryz.prog) w ⟨#[47, 0]⟩ 0 ty (by decide) (by decide)
    have n1 := fun (w : World) ty => run_next_ascii (P := Tryz.prog) w ⟨#[47, 0]⟩ 1 ty (by decide) (by decide)
    have n2 := fun (w : World) ty => run_next_end (P := Tryz.prog) w ⟨#[47, 0]⟩ 2 ty (by decide)
    go_enter Tryz.func106, Tryz.ntmps106
    go_wp2_with fail
    refine wp_loop_rounds 3 ?_
    rw [rounds_succ]
    go_wp2_with fail
    rw [rounds_succ]
    go_wp2_with fail
    rw [rounds_succ]
    go_wp2_with fail
    go_ret
    exact ⟨rfl, (Below.refl _ _).alloc (Nat.le_refl _) _⟩
  · have q1 : (r == 65533) = false := beq_eq_false_iff_ne.2 hE
    cases hv : Lib.validRune r
    · have HV := Lib.hid hv; clear hv
      go_enter Tryz.func106, Tryz.ntmps106
      go_wp2_with (go_at_call 111; refine (Tryz.utf8_ValidRune _ _).mono ?_; rintro e w' ⟨rfl, rfl⟩; rw [HV.out])
      go_ret
      exact ⟨rfl, Below.refl _ _⟩
    · obtain ⟨hs1, hs2, hlast⟩ := encode_facts r (by rw [validRune_eq]; exact hv) h128
      have HV := Lib.hid hv; clear hv
      obtain ⟨t, ht⟩ : ∃ t, Utf8.encode r = t := ⟨_, rfl⟩
      rw [ht] at hs1 hs2 hlast
      by_cases h2 : t.size = 2
      · obtain ⟨a, b, rfl⟩ : ∃ a b, t = ⟨#[a, b]⟩ := by
          obtain ⟨⟨l⟩⟩ := t
          match l, h2 with
          | [a, b], _ => exact ⟨a, b, rfl⟩
        have hb : 128 ≤ b.toNat := hlast (by show 1 < 2; omega)
        have q2 : (((((⟨#[47, 0]⟩ : ByteArray)[1]'(by decide)).toNat : Nat) : Int) != ((((⟨#[a, b]⟩ : ByteArray)[1]'(by show 1 < 2; omega)).toNat : Nat) : Int)) = true := by
          show (((0 : Nat) : Int) != ((b.toNat : Nat) : Int)) = true
          rw [bne_iff_ne]; omega
        clear hlast hs1 hs2 h2
        go_enter Tryz.func106, Tryz.ntmps106
        go_wp2_with (go_at_call 111; refine (Tryz.utf8_ValidRune _ _).mono ?_; rintro e w' ⟨rfl, rfl⟩; rw [HV.out])
        go_step3
        go_wp2_with fail
        refine wp_loop_once ?_
        go_wp2_with fail
        go_step3
        go_wp2_with fail
        go_quiet (fail)
        have hbw : Below w'.heap.size w' (w'.drewN nq) := below_drewN (Below.refl _ _) _
        generalize w'.drewN nq = w1 at hbw ⊢
        go_wp2_with fail
        go_quiet ((go_at_call 110; exact Calls.quiet_of_same (Tryz.strings_IndexByte _ _ _)))
        go_wp2_with fail
        rw [Exit.noGoto_ret]
        go_wp2_with fail
        rw [Exit.noGoto_ret]
        go_wp2_with fail
        go_ret
        exact ⟨rfl, below_drewN hbw _⟩
      · have h3 : 3 ≤ t.size := by omega
        clear hlast hs1 h2
        go_enter Tryz.func106, Tryz.ntmps106
        go_wp2_with (go_at_call 111; refine (Tryz.utf8_ValidRune _ _).mono ?_; rintro e w' ⟨rfl, rfl⟩; rw [HV.out])
        go_step3
        go_wp2_with fail
        refine wp_loop_once ?_
        go_wp2_with fail
        repeat (first | rw [Exit.noGoto_ret] | simp only [Exit.inBlock])
        go_ret
        exact ⟨rfl, Below.refl _ _⟩

theorem indexByte_slash (x : UInt8) (h : x.toNat < 128) : decide ((0 : Int) ≤ Lib.indexByte [47, 0] x) = (x == 47 || x == 0) := by
  have : ∀ n : Fin 128, decide ((0 : Int) ≤ Lib.indexByte [47, 0] (UInt8.ofNat n.1)) = (UInt8.ofNat n.1 == 47 || UInt8.ofNat n.1 == 0) := by decide +kernel
  have h2 := this ⟨x.toNat, h⟩
  simpa using h2

def IsIdx (b : Bool) (w : World) (e : Ending) (w' : World) : Prop := ∃ i : Int, e = .returned (.int .i64 i) ∧ decide (0 ≤ i) = b ∧ Below w.heap.size w w'
theorem indexRune_any (r : Int) (h0 : 0 ≤ r) (hr : r ≤ 2147483647) (w : World) :
    Calls Tryz.prog 106 #[.string ⟨#[47, 0]⟩, .int .i32 r] w (IsIdx (decide (r = 47 ∨ r = 0)) w) := by
  by_cases h : r < 128
  · refine (Tryz.strings_IndexRune_ascii _ r w h0 h).mono ?_
    rintro e w' ⟨rfl, rfl⟩
    refine ⟨_, rfl, ?_, Below.refl _ _⟩
    have h1 := indexByte_slash r.toNat.toUInt8 (by simp; omega)
    show decide ((0 : Int) ≤ Lib.indexByte [47, 0] r.toNat.toUInt8) = _
    rw [h1]
    obtain ⟨n, rfl⟩ := Int.eq_ofNat_of_zero_le h0
    have : ∀ n : Fin 128, ((n.1.toUInt8 == 47) || (n.1.toUInt8 == 0)) = decide ((n.1 : Int) = 47 ∨ (n.1 : Int) = 0) := by decide +kernel
    simpa using this ⟨n, by omega⟩
  · refine (indexRune_slash r (by omega) hr w).mono ?_
    rintro e w' ⟨rfl, hb⟩
    exact ⟨_, rfl, by rw [decide_eq_false (by omega), decide_eq_false (by omega)], hb⟩

/-- Any one of the bytes of s is '/' or nought. -/
def hasBad (l : List UInt8) : Bool := l.any fun x => x == 47 || x == 0
def NoBad (l : List UInt8) (i : Nat) : Prop := ∀ (j : Nat) (x : UInt8), j < i → l[j]? = some x → (x == 47 || x == 0) = false
theorem NoBad.all {l : List UInt8} (h : NoBad l l.length) : hasBad l = false := by
  unfold hasBad
  rw [List.any_eq_false]
  intro x hx
  obtain ⟨j, hj, hjx⟩ := List.getElem_of_mem hx
  have := h j x hj (by rw [List.getElem?_eq_getElem hj, hjx])
  simpa using this
theorem hasBad_at {l : List UInt8} {i : Nat} {x : UInt8} (h : l[i]? = some x) (hx : (x == 47 || x == 0) = true) : hasBad l = true := by
  unfold hasBad
  exact List.any_eq_true.2 ⟨x, List.mem_of_getElem? h, hx⟩
theorem decode_skip (s : ByteArray) (i : Nat) (h : i < s.size) : i + (Utf8.decode s i).2 ≤ s.size ∧ ∀ (j : Nat) (x : UInt8), i < j → j < i + (Utf8.decode s i).2 → s.data.toList[j]? = some x → 128 ≤ x.toNat := by
  have hsz : s.data.toList.length = s.size := (Lib.size_eq s).symm
  have hc := Lib.decodeN_conts (s.data.toList.length - i) (s.data.toList.getD i 0).toNat (s.data.toList.getD (i + 1) 0).toNat (s.data.toList.getD (i + 2) 0).toNat (s.data.toList.getD (i + 3) 0).toNat
  rw [← Lib.decode_N s i] at hc
  obtain ⟨h1, h2, h3, h4⟩ := hc
  generalize (Utf8.decode s i).2 = d at *
  refine ⟨by omega, fun j x hj hd hx => ?_⟩
  have hg : s.data.toList.getD j 0 = x := by rw [List.getD_eq_getElem?_getD, hx]; rfl
  rcases (by omega : j = i + 1 ∨ j = i + 2 ∨ j = i + 3) with rfl | rfl | rfl
  · rw [hg] at h1; omega
  · rw [hg] at h2; omega
  · rw [hg] at h3; omega

set_option maxRecDepth 100000 in
/-- strings.IndexAny(s, "/\x00") of a short text: whether it is there. -/
theorem indexAny_short (s : ByteArray) (h8 : s.size ≤ 8) (w : World) :
    Calls Tryz.prog 104 #[.string s, .string ⟨#[47, 0]⟩] w fun e w' => Ret1 (fun x => ∃ i : Int, x = .int .i64 i ∧ decide (0 ≤ i) = hasBad s.data.toList) e ∧ Below w.heap.size w w' := by
  have q8 : decide ((8 : Int) < (s.size : Int)) = false := dec_false (by omega)
  have Q8 := Lib.hid q8; clear q8
  have hsz : s.data.toList.length = s.size := (Lib.size_eq s).symm
  have HS := Lib.hid hsz; clear hsz
  go_enter Tryz.func104, Tryz.ntmps104
  go_wp2_with (go_at_call 107; refine (Tryz.strings_shouldUseASCIISet _ _).mono ?_; rintro e w1 ⟨rfl, hw⟩; rw [Q8.out]; have hw' := hw.symm; subst hw')
  go_loopg [9, 10] s.size (fun g _ _ wx => ∃ i : Nat, i ≤ s.size ∧ s.size - i = g ∧ wx.heap[w.heap.size]? = some (.stringIter s i) ∧ Below w.heap.size w wx ∧ NoBad s.data.toList i)
  case atStart => exact ⟨0, by omega, by omega, blk_new rfl, (Below.refl _ _).alloc (Nat.le_refl _) _, fun j x hj => by omega⟩
  case round =>
    obtain ⟨i, hi, hig, hit, hbel, hno⟩ := hrel
    by_cases hlt : i < s.size
    · obtain ⟨hd1, hd2⟩ := decode_skip s i hlt
      obtain ⟨x, hx⟩ : ∃ x : UInt8, s[i]'hlt = x := ⟨_, rfl⟩
      have hxl : s.data.toList[i]? = some x := by rw [← hx]; exact Lib.data_getElem? s i hlt
      have hsize := blk_lt hit
      by_cases h128 : x.toNat < 128
      · have hnx := fun ty => Lib.run_next_ascii_at (P := Tryz.prog) _ _ s i ty hit hlt (by rw [hx]; exact h128)
        rw [hx] at hnx
        have HIT := Lib.hid (Lib.iterAt_heap _ _ s i (i + 1) hit)
        have HB := Lib.hid (Lib.below_iterAt hbel (Nat.le_refl _) s (i + 1))
        have HXL := Lib.hid hxl
        have HNO := Lib.hid hno
        have hbx : decide ((x.toNat : Int) = 47 ∨ (x.toNat : Int) = 0) = (x == 47 || x == 0) := by
          have : ∀ n : Fin 128, ((UInt8.ofNat n.1 == 47) || (UInt8.ofNat n.1 == 0)) = decide ((n.1 : Int) = 47 ∨ (n.1 : Int) = 0) := by decide +kernel
          have h2 := this ⟨x.toNat, h128⟩
          simpa using h2.symm
        have HBX := Lib.hid hbx
        clear hxl hno hd1 hd2 hx hit hbel hbx
        go_wp2_with fail
        refine (indexRune_any _ (by omega) (by omega) _).mono ?_
        rintro e w2 ⟨q, rfl, hq, hb2⟩
        rw [HBX.out] at hq
        cases hbad : (x == 47 || x == 0)
        · rw [hbad] at hq
          have HBAD := Lib.hid hbad; clear hbad
          clear hnx
          go_wp2_with fail
          go_roundg (s.size - (i + 1))
          case rel =>
            refine ⟨i + 1, by omega, rfl, ?_, below_call HB.out hb2 (Nat.le_refl _), ?_⟩
            · exact blk_below hb2 (blk_lt HIT.out) HIT.out
            · intro j y hj hy
              by_cases hji : j = i
              · subst hji; rw [HXL.out] at hy; cases hy; exact HBAD.out
              · exact HNO.out j y (by omega) hy
          all_goals omega
        · rw [hbad] at hq
          have hh := hasBad_at HXL.out hbad
          have HH := Lib.hid hh
          clear hnx hh hbad
          go_wp2_with fail
          go_ret
          exact ⟨⟨_, rfl, _, rfl, by rw [HH.out]; simp⟩, below_call HB.out hb2 (Nat.le_refl _)⟩
      · have hnx := fun ty => Lib.run_next_any_at (P := Tryz.prog) _ _ s i ty hit hlt
        obtain ⟨hr1, hw1⟩ := decode_high s i hlt (by rw [hx]; omega)
        have hr2 := decode_le s i
        have HIT := Lib.hid (Lib.iterAt_heap _ _ s i (i + (Utf8.decode s i).2) hit)
        have HB := Lib.hid (Lib.below_iterAt hbel (Nat.le_refl _) s (i + (Utf8.decode s i).2))
        generalize (Utf8.decode s i).2 = d at *
        generalize (Utf8.decode s i).1 = r at *
        have HXL := Lib.hid hxl
        have HNO := Lib.hid hno
        have HD := Lib.hid hd2
        clear hxl hno hd2 hx hit hbel
        go_wp2_with fail
        refine (indexRune_any _ (by omega) (by omega) _).mono ?_
        rintro e w2 ⟨q, rfl, hq, hb2⟩
        have hf : decide ((r : Int) = 47 ∨ (r : Int) = 0) = false := dec_false (by omega)
        rw [hf] at hq
        clear hnx hf
        go_wp2_with fail
        go_roundg (s.size - (i + d))
        case rel =>
          refine ⟨i + d, hd1, rfl, ?_, below_call HB.out hb2 (Nat.le_refl _), ?_⟩
          · exact blk_below hb2 (blk_lt HIT.out) HIT.out
          · intro j y hj hy
            by_cases hji : j < i
            · exact HNO.out j y hji hy
            · have hy128 : 128 ≤ y.toNat := by
                by_cases hje : j = i
                · subst hje; rw [HXL.out] at hy; cases hy; omega
                · exact HD.out j y (by omega) hj hy
              have h47 : (y == 47) = false := beq_eq_false_iff_ne.2 (by rintro rfl; revert hy128; decide)
              have h0 : (y == 0) = false := beq_eq_false_iff_ne.2 (by rintro rfl; revert hy128; decide)
              rw [h47, h0]; rfl
        all_goals omega
    · obtain rfl : i = s.size := by omega
      have hnx := fun ty => Lib.run_next_end_at (P := Tryz.prog) _ _ s s.size ty hit (by omega)
      have HS' := HS.out
      have hfin := NoBad.all (by rw [HS']; exact hno)
      have HF := Lib.hid hfin
      clear hfin hno hit HS'
      go_wp2
      go_ret
      exact ⟨⟨_, rfl, _, rfl, by rw [HF.out]; rfl⟩, hbel⟩

theorem hasBad_iff (l : List UInt8) : decide ((0 : Int) ≤ Lib.indexAny l [47, 0]) = hasBad l := by
  induction l with
  | nil => rfl
  | cons b l ih =>
    unfold Lib.indexAny
    have hge := Lib.indexAny_ge [47, 0] l
    have hb : ([47, 0] : List UInt8).contains b = (b == 47 || b == 0) := by simp only [List.contains_cons, List.contains_nil, Bool.or_false]
    rw [hb]
    simp only [hasBad, List.any_cons]
    cases hq : (b == 47 || b == 0)
    · rw [Bool.false_or]
      show _ = hasBad l
      rw [← ih]
      simp only [Bool.false_eq_true, if_false]
      split
      · rename_i h; have := eq_of_beq h; rw [this]
      · rename_i h; have : Lib.indexAny l [47, 0] ≠ -1 := fun e => h (beq_iff_eq.2 e)
        rw [Bool.eq_iff_iff]; simp only [decide_eq_true_eq]; omega
    · simp

theorem indexAny_long (s : ByteArray) (h8 : 8 < s.size) (hs : s.size < 4294967281) (w : World) :
    Calls Tryz.prog 104 #[.string s, .string ⟨#[47, 0]⟩] w fun e w' => Ret1 (fun x => ∃ i : Int, x = .int .i64 i ∧ decide (0 ≤ i) = hasBad s.data.toList) e ∧ Below w.heap.size w w' := by
  refine (Tryz.strings_IndexAny_long (zero_of_info (v := .agg (Array.replicate 256 (.bool false))) (n := 256) (by kernel_rfl)).1 s ⟨#[47, 0]⟩ w (by decide) h8 hs (by decide) ?_).mono ?_
  · intro j b hb
    match j, hb with
    | 0, hb => cases hb; decide
    | 1, hb => cases hb; decide
    | j + 2, hb => cases hb
  · rintro e w' ⟨rfl, rfl⟩
    exact ⟨⟨_, rfl, _, rfl, hasBad_iff _⟩, ((Below.refl _ _).alloc (Nat.le_refl _) _).alloc (by simp) _⟩

theorem containsAny_any (s : ByteArray) (hs : s.size < 4294967281) (w : World) :
    Calls Tryz.prog 97 #[.string s, .string ⟨#[47, 0]⟩] w fun e w' => e = .returned (.bool (hasBad s.data.toList)) ∧ Below w.heap.size w w' := by
  have c : Calls Tryz.prog 104 #[.string s, .string ⟨#[47, 0]⟩] w fun e w' => Ret1 (fun x => ∃ i : Int, x = .int .i64 i ∧ decide (0 ≤ i) = hasBad s.data.toList) e ∧ Below w.heap.size w w' := by
    by_cases h8 : s.size ≤ 8
    · exact indexAny_short s h8 w
    · exact indexAny_long s (by omega) hs w
  have C := Lib.hid c; clear c
  go_enter Tryz.func97, Tryz.ntmps97
  go_wp2_with fail
  refine C.out.mono ?_
  rintro e w1 ⟨⟨x, rfl, i, rfl, hi⟩, hb⟩
  have HI := Lib.hid hi; clear hi
  go_wp2_with fail
  go_ret
  exact ⟨by rw [← HI.out]; rfl, hb⟩
end Go.Proofs.YtoofcnehoffllaaGreat

namespace Go.Proofs.YtoofcnehoffllaaGreat
open Go.RowKit

/-- What is wrong with a name: 36 it is too long, 22 it is none, 0 nothing. -/
def nameE (l : List UInt8) : Int := if 14 < l.length then 36 else if (l.isEmpty || l == [46] || l == [46, 46] || hasBad l) then 22 else 0

theorem entryName_any (s : ByteArray) (hs : s.size ≤ 140737488355328) (w : World) :
    Calls Tryz.prog 83 #[.string s] w fun e w' => e = .returned (.int .i64 (nameE s.data.toList)) ∧ Below w.heap.size w w' := by
  have hl := Lib.size_eq s
  obtain ⟨r, hr⟩ : ∃ r, r = nameE s.data.toList := ⟨_, rfl⟩
  rw [← hr]
  unfold nameE at hr
  by_cases h14 : 14 < s.size
  · rw [if_pos (by omega)] at hr
    have HR := Lib.hid hr; clear hr
    clear hl
    go_enter Tryz.func83, Tryz.ntmps83
    go_wp2_with fail
    go_ret
    exact ⟨by rw [HR.out]; rfl, Below.refl _ _⟩
  · rw [if_neg (by omega)] at hr
    have hc := containsAny_any s (by omega) w
    have HC := Lib.hid hc
    clear hc hl
    have ht := ByteArray.toList_eq s
    rw [← ht] at hr
    have HR := Lib.hid hr; clear hr ht
    cases e1 : s.toList.isEmpty
    · cases e2 : (s.toList == [46])
      · cases e3 : (s.toList == [46, 46])
        · have E1 := Lib.hid e1; have E2 := Lib.hid e2; have E3 := Lib.hid e3
          go_enter Tryz.func83, Tryz.ntmps83
          go_wp2_with fail
          refine HC.out.mono ?_
          rintro e w' ⟨rfl, hb⟩
          have hbt : s.toList = s.data.toList := ByteArray.toList_eq s
          rw [← hbt]
          cases hbad : hasBad s.toList
          all_goals
            have HB := Lib.hid hbad; clear hbad hbt
            go_wp2_with fail
            go_ret
            exact ⟨by rw [HR.out, E1.out, E2.out, E3.out, HB.out]; rfl, hb⟩
        · have hne : s.toList ≠ [] := by rw [eq_of_beq e3]; simp
          have E1 := Lib.hid e1; have E2 := Lib.hid e2; have E3 := Lib.hid e3
          clear hne
          go_enter Tryz.func83, Tryz.ntmps83
          go_wp2_with fail
          go_ret
          exact ⟨by rw [HR.out, E1.out, E2.out, E3.out]; simp, Below.refl _ _⟩
      · have E1 := Lib.hid e1; have E2 := Lib.hid e2
        go_enter Tryz.func83, Tryz.ntmps83
        go_wp2_with fail
        go_ret
        exact ⟨by rw [HR.out, E1.out, E2.out]; simp, Below.refl _ _⟩
    · have E1 := Lib.hid e1
      go_enter Tryz.func83, Tryz.ntmps83
      go_wp2_with fail
      go_ret
      exact ⟨by rw [HR.out, E1.out]; simp, Below.refl _ _⟩

theorem refName_any (s : ByteArray) (hs : s.size ≤ 140737488355328) (w : World) :
    Calls Tryz.prog 79 #[.string s] w fun e w' => e = .returned (.int .i64 (nameE s.data.toList)) ∧ w' = w := by
  have hl := Lib.size_eq s
  obtain ⟨r, hr⟩ : ∃ r, r = nameE s.data.toList := ⟨_, rfl⟩
  rw [← hr]
  unfold nameE at hr
  by_cases h14 : 14 < s.size
  · rw [if_pos (by omega)] at hr
    have HR := Lib.hid hr; clear hr
    clear hl
    go_enter Tryz.func79, Tryz.ntmps79
    go_wp2_with fail
    go_ret
    exact ⟨by rw [HR.out]; rfl, rfl⟩
  · rw [if_neg (by omega)] at hr
    have HL := Lib.hid hl; clear hl
    have ht := ByteArray.toList_eq s
    rw [← ht] at hr
    have HR := Lib.hid hr; clear hr
    have HT := Lib.hid ht; clear ht
    cases e1 : s.toList.isEmpty
    · cases e2 : (s.toList == [46])
      · cases e3 : (s.toList == [46, 46])
        · have E1 := Lib.hid e1; have E2 := Lib.hid e2; have E3 := Lib.hid e3
          go_enter Tryz.func79, Tryz.ntmps79
          go_wp2_with fail
          clear e1 e2 e3
          go_loop [3] (fun i => ∃ k : Nat, k ≤ s.size ∧ i = .int .i64 k ∧ NoBad s.data.toList k) (fun i => s.size - (intOf i).toNat)
          case atStart => exact ⟨0, Nat.zero_le _, rfl, fun j x hj => by omega⟩
          case round =>
            obtain ⟨k, hk, rfl, hno⟩ := hrel
            by_cases hlt : k < s.size
            · have hxl : s.data.toList[k]? = some s[k] := Lib.data_getElem? s k hlt
              have HX := Lib.hid hxl; clear hxl
              have HN := Lib.hid hno; clear hno
              have b0 : (((s[k].toNat : Nat) : Int) == 0) = (s[k] == 0) := by
                rw [Bool.eq_iff_iff, beq_iff_eq, beq_iff_eq, ← UInt8.toNat_inj]; show _ ↔ s[k].toNat = 0; omega
              have b1 : (((s[k].toNat : Nat) : Int) == 47) = (s[k] == 47) := by
                rw [Bool.eq_iff_iff, beq_iff_eq, beq_iff_eq, ← UInt8.toNat_inj]; show _ ↔ s[k].toNat = 47; omega
              cases z0 : (s[k] == 0)
              · cases z1 : (s[k] == 47)
                · rw [z0] at b0
                  rw [z1] at b1
                  have Z0 := Lib.hid z0; have Z1 := Lib.hid z1
                  clear z0 z1
                  go_wp2_with fail
                  go_round
                  case rel =>
                    refine ⟨k + 1, by omega, by go_num, fun j y hj hy => ?_⟩
                    by_cases hji : j = k
                    · subst hji; rw [HX.out] at hy; cases hy; rw [Z0.out, Z1.out]; rfl
                    · exact HN.out j y (by omega) hy
                  case measure => simp [intOf]; omega
                · have hh := hasBad_at HX.out (by rw [z0, z1]; rfl)
                  rw [← HT.out] at hh
                  rw [z0] at b0
                  rw [z1] at b1
                  have HH := Lib.hid hh
                  clear z0 z1 hh
                  go_wp2_with fail
                  go_ret
                  exact ⟨by rw [HR.out, HH.out]; simp, rfl⟩
              · have hh := hasBad_at HX.out (by rw [z0]; simp)
                rw [← HT.out] at hh
                rw [z0] at b0
                have HH := Lib.hid hh
                clear z0 hh b1
                go_wp2_with fail
                go_ret
                exact ⟨by rw [HR.out, HH.out]; simp, rfl⟩
            · obtain rfl : k = s.size := by omega
              have hnb := NoBad.all (by rw [← HL.out]; exact hno)
              rw [← HT.out] at hnb
              have HN := Lib.hid hnb
              clear hnb hno
              go_wp2_with fail
              go_ret
              exact ⟨by rw [HR.out, E1.out, E2.out, E3.out, HN.out]; rfl, rfl⟩
        · have E1 := Lib.hid e1; have E2 := Lib.hid e2; have E3 := Lib.hid e3
          go_enter Tryz.func79, Tryz.ntmps79
          go_wp2_with fail
          go_ret
          exact ⟨by rw [HR.out, E1.out, E2.out, E3.out]; simp, rfl⟩
      · have E1 := Lib.hid e1; have E2 := Lib.hid e2
        go_enter Tryz.func79, Tryz.ntmps79
        go_wp2_with fail
        go_ret
        exact ⟨by rw [HR.out, E1.out, E2.out]; simp, rfl⟩
    · have E1 := Lib.hid e1
      go_enter Tryz.func79, Tryz.ntmps79
      go_wp2_with fail
      go_ret
      exact ⟨by rw [HR.out, E1.out]; simp, rfl⟩
end Go.Proofs.YtoofcnehoffllaaGreat

namespace Go.Proofs.YtoofcnehoffllaaGreat
open Go.RowKit

/-- v is a slice of the texts l, that lie below B. -/
def StrsAt (B : Nat) (w : World) (v : Value) (l : List ByteArray) : Prop :=
  (l = [] ∧ ∃ a c, v = .slice a 0 c) ∨ (∃ g o c, v = .slice (some ⟨g, o, none⟩) l.length c ∧ l.length ≤ c ∧ 0 < l.length ∧ g < B ∧ ∀ j x, l[j]? = some x → w.cell? ⟨g, o + j, none⟩ = some (.string x))
theorem cell_below {B : Nat} {w w' : World} (h : Below B w w') {g o : Nat} (hg : g < B) : w'.cell? ⟨g, o, none⟩ = w.cell? ⟨g, o, none⟩ :=
  World.cell?_of_block (w := w) (a := ⟨g, o, none⟩) (h.block g hg)
theorem StrsAt.below {B : Nat} {w w' : World} {v : Value} {l : List ByteArray} (h : StrsAt B w v l) (hb : Below B w w') : StrsAt B w' v l := by
  rcases h with h | ⟨g, o, c, h1, h2, h3, h4, h5⟩
  · exact .inl h
  · exact .inr ⟨g, o, c, h1, h2, h3, h4, fun j x hx => by rw [cell_below hb h4]; exact h5 j x hx⟩
theorem StrsAt.mono {B B' : Nat} {w : World} {v : Value} {l : List ByteArray} (h : StrsAt B w v l) (hb : B ≤ B') : StrsAt B' w v l := by
  rcases h with h | ⟨g, o, c, h1, h2, h3, h4, h5⟩
  · exact .inl h
  · exact .inr ⟨g, o, c, h1, h2, h3, by omega, h5⟩
theorem StrsAt.nil {B : Nat} {w : World} : StrsAt B w (.slice none 0 0) [] := .inl ⟨rfl, none, 0, rfl⟩
theorem StrsAt.own {B : Nat} {w : World} {v : Value} {l : List ByteArray} (h : w.ownsRow B 9 1 v l.length (l.map Value.string)) : StrsAt w.heap.size w v l := by
  by_cases hn : 0 < l.length
  · rcases h.2 with ⟨rfl, h0⟩ | ⟨g, cap, cur, rfl, hb, hg, hcap, hcur, h6, h7⟩
    · omega
    · refine .inr ⟨g, 0, cap, rfl, by omega, hn, blk_lt hg, fun j x hx => ?_⟩
      have hjl : j < l.length := (List.getElem?_eq_some_iff.1 hx).1
      rw [Nat.zero_add]
      refine cell_blk_some hg ?_
      have := h7
      simp only [Nat.mul_one] at this
      have h8 : (cur.toList.take l.length)[j]? = (l.map Value.string)[j]? := by rw [this]
      rw [List.getElem?_take, if_pos hjl, List.getElem?_map, hx] at h8
      simpa using h8
  · obtain rfl : l = [] := List.eq_nil_of_length_eq_zero (by omega)
    rcases h.2 with ⟨rfl, _⟩ | ⟨g, cap, cur, rfl, _⟩
    · exact .nil
    · exact .inl ⟨rfl, _, _, rfl⟩

/-- The error of the first that is no name. -/
def firstE : List ByteArray → Int
  | [] => 0
  | x :: r => if nameE x.data.toList = 0 then firstE r else nameE x.data.toList
theorem firstE_drop (l : List ByteArray) (k : Nat) (x : ByteArray) (hx : l[k]? = some x) : firstE (l.drop k) = if nameE x.data.toList = 0 then firstE (l.drop (k + 1)) else nameE x.data.toList := by
  have hk : k < l.length := (List.getElem?_eq_some_iff.1 hx).1
  have hxk : l[k] = x := (List.getElem?_eq_some_iff.1 hx).2
  rw [List.drop_eq_getElem_cons hk, hxk]; rfl

set_option maxHeartbeats 1000000 in
theorem first_any {B : Nat} {w : World} {v : Value} {l : List ByteArray} (h : StrsAt B w v l) (hB : B ≤ w.heap.size) (hs : ∀ x ∈ l, x.size ≤ 140737488355328) (hn : l.length ≤ 4611686018427387904) :
    Calls Tryz.prog 71 #[v] w fun e w' => e = .returned (.int .i64 (firstE l)) ∧ Below w.heap.size w w' := by
  rcases h with ⟨rfl, a, c, rfl⟩ | ⟨g, o, c, rfl, h2, h3, h4, h5⟩
  · go_enter Tryz.func71, Tryz.ntmps71
    go_wp2_with fail
    go_loop [8] (fun i => i = .int .i64 0) (fun _ => 0)
    case atStart => rfl
    case round =>
      obtain rfl := hrel
      go_wp2_with fail
      go_ret
      exact ⟨rfl, Below.refl _ _⟩
  · have H5 := Lib.hid h5; clear h5
    have HS := Lib.hid hs; clear hs
    obtain ⟨r, hr⟩ : ∃ r, r = firstE l := ⟨_, rfl⟩
    rw [← hr]
    have HR := Lib.hid hr; clear hr
    go_enter Tryz.func71, Tryz.ntmps71
    go_wp2_with fail
    go_loopw [8] (fun i wr => ∃ k : Nat, k ≤ l.length ∧ i = .int .i64 k ∧ firstE (l.drop k) = r ∧ Below w.heap.size w wr) (fun i _ => l.length - (intOf i).toNat)
    case atStart => exact ⟨0, Nat.zero_le _, rfl, HR.out.symm, Below.refl _ _⟩
    case round =>
      obtain ⟨k, hk, rfl, hf, hb⟩ := hrel
      by_cases hlt : k < l.length
      · obtain ⟨x, hx⟩ : ∃ x, l[k]? = some x := ⟨_, List.getElem?_eq_getElem hlt⟩
        have hxs := HS.out x (List.mem_of_getElem? hx)
        have hc := (cell_below hb (Nat.lt_of_lt_of_le h4 hB) (o := o + k)).trans (H5.out k x hx)
        rw [firstE_drop l k x hx] at hf
        have HF := Lib.hid hf; clear hf
        clear hx
        go_wp2_with fail
        refine (entryName_any x hxs _).mono ?_
        rintro e w1 ⟨rfl, hb1⟩
        have hb2 := below_call hb hb1 (Nat.le_refl _)
        clear hb hb1 hc
        by_cases h0 : nameE x.data.toList = 0
        · have hf := HF.out
          rw [if_pos h0] at hf
          have HF2 := Lib.hid hf; clear hf
          rw [h0]
          have H0 := Lib.hid h0; clear h0
          go_wp2_with fail
          go_roundw
          case rel => exact ⟨k + 1, by omega, by go_num, HF2.out, hb2⟩
          case measure => simp [intOf]; omega
        · have hf := HF.out
          rw [if_neg h0] at hf
          have h1 : (nameE x.data.toList == 0) = false := by simpa using h0
          have HF2 := Lib.hid hf; clear hf
          clear h0
          generalize nameE x.data.toList = q at *
          go_wp2_with fail
          go_ret
          exact ⟨by rw [HF2.out]; rfl, hb2⟩
      · obtain rfl : k = l.length := by omega
        rw [List.drop_length] at hf
        have hr0 : r = 0 := hf.symm
        subst hr0
        clear hf
        go_wp2_with fail
        go_ret
        exact ⟨rfl, hb⟩

theorem texts_len (l m : List ByteArray) (hlm : l.length ≠ m.length) (a b : Option Addr) (c d : Nat) (w : World) :
    Calls Tryz.prog 18 #[.slice a l.length c, .slice b m.length d] w fun e w' => e = .returned (.bool (decide (l = m))) ∧ Below w.heap.size w w' := by
  have hne : decide (l = m) = false := dec_false (fun h => hlm (by rw [h]))
  rw [hne]
  have q : ((l.length : Int) != (m.length : Int)) = true := by simp; omega
  go_enter Tryz.func18, Tryz.ntmps18
  go_wp2_with fail
  go_ret
  exact ⟨rfl, Below.refl _ _⟩
theorem toList_inj {x y : ByteArray} (h : x.toList = y.toList) : x = y := by
  rw [ByteArray.toList_eq, ByteArray.toList_eq] at h
  cases x; cases y; simpa using h
theorem take_succ_iff (l m : List ByteArray) (k : Nat) (x y : ByteArray) (hx : l[k]? = some x) (hy : m[k]? = some y) (h : l.take k = m.take k) : (l.take (k + 1) = m.take (k + 1)) ↔ x = y := by
  rw [List.take_add_one, List.take_add_one, hx, hy, h]; simp

set_option maxHeartbeats 1000000 in
theorem texts_any {B : Nat} {w : World} {u v : Value} {l m : List ByteArray} (h : StrsAt B w u l) (h' : StrsAt B w v m) (hB : B ≤ w.heap.size) (hl : l.length ≤ 4611686018427387904) (hm : m.length ≤ 4611686018427387904) :
    Calls Tryz.prog 18 #[u, v] w fun e w' => e = .returned (.bool (decide (l = m))) ∧ Below w.heap.size w w' := by
  by_cases hlm : l.length = m.length
  · rcases h with ⟨rfl, a, c, rfl⟩ | ⟨g, o, c, rfl, h2, h3, h4, h5⟩
    · have hm0 : m = [] := List.eq_nil_of_length_eq_zero hlm.symm
      subst hm0
      rcases h' with ⟨_, a', c', rfl⟩ | ⟨g', o', c', rfl, h2', h3', h4', h5'⟩
      · go_enter Tryz.func18, Tryz.ntmps18
        go_wp2_with fail
        go_loop [13] (fun i => i = .int .i64 0) (fun _ => 0)
        case atStart => rfl
        case round =>
          obtain rfl := hrel
          go_wp2_with fail
          go_ret
          exact ⟨rfl, Below.refl _ _⟩
      · simp at h3'
    · rcases h' with ⟨rfl, a', c', rfl⟩ | ⟨g', o', c', rfl, h2', h3', h4', h5'⟩
      · simp at hlm; subst hlm; simp at h3
      · have H5 := Lib.hid h5; clear h5
        have H5' := Lib.hid h5'; clear h5'
        obtain ⟨r, hr⟩ : ∃ r, r = decide (l = m) := ⟨_, rfl⟩
        rw [← hr]
        have HR := Lib.hid hr; clear hr
        have q : ((l.length : Int) != (m.length : Int)) = false := by simp; omega
        go_enter Tryz.func18, Tryz.ntmps18
        go_wp2_with fail
        go_loopw [13] (fun i wr => ∃ k : Nat, k ≤ l.length ∧ i = .int .i64 k ∧ l.take k = m.take k ∧ Below w.heap.size w wr) (fun i _ => l.length - (intOf i).toNat)
        case atStart => exact ⟨0, Nat.zero_le _, rfl, rfl, Below.refl _ _⟩
        case round =>
          obtain ⟨k, hk, rfl, hf, hb⟩ := hrel
          have HF := Lib.hid hf; clear hf
          by_cases hlt : k < l.length
          · obtain ⟨x, hx⟩ : ∃ x, l[k]? = some x := ⟨_, List.getElem?_eq_getElem hlt⟩
            obtain ⟨y, hy⟩ : ∃ y, m[k]? = some y := ⟨_, List.getElem?_eq_getElem (by omega)⟩
            have hc := (cell_below hb (Nat.lt_of_lt_of_le h4 hB) (o := o + k)).trans (H5.out k x hx)
            have hc' := (cell_below hb (Nat.lt_of_lt_of_le h4' hB) (o := o' + k)).trans (H5'.out k y hy)
            have hlt' : k < m.length := by omega
            have HX := Lib.hid hx; have HY := Lib.hid hy
            clear hx hy
            go_wp2_with fail
            go_quiet (fail)
            have hbn := below_drewN hb nq
            clear hc hc'
            generalize wr.drewN nq = w' at hbn ⊢
            by_cases hxy : x = y
            · have e : (x.toList == y.toList) = true := by rw [hxy]; simp
              have hf := (take_succ_iff l m k x y HX.out HY.out HF.out).2 hxy
              have HF2 := Lib.hid hf; clear hf hxy
              rw [e, Bool.not_true]
              go_wp2_with fail
              go_roundw
              case rel => exact ⟨k + 1, by omega, by go_num, HF2.out, hbn⟩
              case measure => simp [intOf]; omega
            · have e : (x.toList == y.toList) = false := by
                rw [beq_eq_false_iff_ne]; intro h; exact hxy (toList_inj h)
              have hr0 : r = false := by
                rw [HR.out]; refine dec_false (fun h => hxy ?_)
                have h1 := HX.out; have h2 := HY.out
                rw [h] at h1; rw [h1] at h2; exact Option.some.inj h2
              subst hr0
              clear hxy
              rw [e, Bool.not_false]
              go_wp2_with fail
              go_ret
              exact ⟨rfl, hbn⟩
          · obtain rfl : k = l.length := by omega
            have hr1 : r = true := by
              rw [HR.out]; have := HF.out
              rw [List.take_length, hlm, List.take_length] at this
              exact dec_true this
            subst hr1
            go_wp2_with fail
            go_ret
            exact ⟨rfl, hb⟩
  · have hu : ∃ a c, u = .slice a l.length c := by
      rcases h with ⟨rfl, a, c, rfl⟩ | ⟨g, o, c, rfl, _⟩
      · exact ⟨a, c, rfl⟩
      · exact ⟨_, c, rfl⟩
    have hv : ∃ a c, v = .slice a m.length c := by
      rcases h' with ⟨rfl, a, c, rfl⟩ | ⟨g, o, c, rfl, _⟩
      · exact ⟨a, c, rfl⟩
      · exact ⟨_, c, rfl⟩
    obtain ⟨a, c, rfl⟩ := hu
    obtain ⟨b, d, rfl⟩ := hv
    exact texts_len l m hlm a b c d w
end Go.Proofs.YtoofcnehoffllaaGreat

namespace Go.Proofs.YtoofcnehoffllaaGreat
open Go.RowKit Go.Lib

/-- The pieces between '/', the empty ones left out; cur is what of a piece has been seen. -/
def fieldsB (cur : List UInt8) : List UInt8 → List (List UInt8)
  | [] => if cur = [] then [] else [cur]
  | x :: r => if x = 47 then (if cur = [] then fieldsB [] r else cur :: fieldsB [] r) else fieldsB (cur ++ [x]) r
theorem fieldsB_run : ∀ (b cur r : List UInt8), (∀ x ∈ b, x ≠ 47) → fieldsB cur (b ++ r) = fieldsB (cur ++ b) r
  | [], cur, r, _ => by simp
  | x :: b, cur, r, h => by
    rw [List.cons_append, fieldsB, if_neg (h x (by simp)), fieldsB_run b _ r fun y hy => h y (by simp [hy])]
    simp
theorem fieldsB_last (cur : List UInt8) : fieldsB cur [] = if cur = [] then [] else [cur] := rfl
theorem fieldsB_slash (cur r : List UInt8) : fieldsB cur (47 :: r) = if cur = [] then fieldsB [] r else cur :: fieldsB [] r := by rw [fieldsB, if_pos rfl]

theorem slash_step (s : ByteArray) (pos : Nat) (h : pos < s.size) : 1 ≤ (Utf8.decode s pos).2 ∧ pos + (Utf8.decode s pos).2 ≤ s.size ∧
    (((Utf8.decode s pos).1 == 47) = true → (Utf8.decode s pos).2 = 1 ∧ s.data.toList[pos]? = some 47) ∧
    (((Utf8.decode s pos).1 == 47) = false → ∀ j y, pos ≤ j → j < pos + (Utf8.decode s pos).2 → s.data.toList[j]? = some y → y ≠ 47) := by
  have hx := data_getElem? s pos h
  obtain ⟨h1, h2⟩ := decode_skip s pos h
  by_cases h128 : s[pos].toNat < 128
  · have hd : Utf8.decode s pos = (s[pos].toNat, 1) := by
      rw [decode_N, List.getD_eq_getElem?_getD, hx]
      exact decodeN_ascii _ _ _ _ _ h128
    rw [hd] at h1 h2 ⊢
    refine ⟨Nat.le_refl _, h1, fun hr => ⟨rfl, ?_⟩, fun hr j y hj hj2 hy he => ?_⟩
    · rw [hx]; congr 1; rw [← UInt8.toNat_inj]; exact eq_of_beq hr
    · have hjp : j = pos := by simp at hj2; omega
      subst hjp
      rw [hx] at hy
      have := Option.some.inj hy
      rw [this, he] at hr
      simp at hr
  · obtain ⟨hr1, hw1⟩ := decode_high s pos h (by omega)
    refine ⟨hw1, h1, fun hr => ?_, fun _ j y hj hj2 hy he => ?_⟩
    · have := eq_of_beq hr; omega
    · subst he
      by_cases hjp : j = pos
      · subst hjp; rw [hx] at hy
        have := Option.some.inj hy
        rw [this] at h128; exact absurd (by decide) h128
      · exact absurd (h2 j 47 (by omega) hj2 hy) (by decide)

def curOf (l : List UInt8) (pos : Nat) : Option Nat → List UInt8
  | none => []
  | some a => (l.drop a).take (pos - a)

theorem spans_slash (s : ByteArray) : ∀ (f pos : Nat) (st : Option Nat) (acc : List (Nat × Nat)), s.size - pos ≤ f → pos ≤ s.size → (∀ a, st = some a → a < pos) →
    (closeSpans s (spansFromP (fun r => r == 47) s f pos st acc)).map (fun x => (s.extract x.1 x.2).data.toList) = acc.map (fun x => (s.extract x.1 x.2).data.toList) ++ fieldsB (curOf s.data.toList pos st) (s.data.toList.drop pos) := by
  have hsz : s.data.toList.length = s.size := (size_eq s).symm
  have hex : ∀ a b, (s.extract a b).data.toList = (s.data.toList.drop a).take (b - a) := fun a b => by rw [← toList_data, extract_toList]
  have hend : ∀ (f : Nat) (st : Option Nat) (acc : List (Nat × Nat)), (∀ a, st = some a → a < s.size) →
      (closeSpans s (spansFromP (fun r => r == 47) s f s.size st acc)).map (fun x => (s.extract x.1 x.2).data.toList) = acc.map (fun x => (s.extract x.1 x.2).data.toList) ++ fieldsB (curOf s.data.toList s.size st) (s.data.toList.drop s.size) := by
    intro f st acc hst
    rw [spansFromP_end _ _ _ _ _ _ (by omega), show s.data.toList.drop s.size = [] from List.drop_eq_nil_of_le (by omega), fieldsB_last]
    cases st with
    | none => simp [closeSpans, curOf]
    | some a =>
      have ha := hst a rfl
      have hne : curOf s.data.toList s.size (some a) ≠ [] := by
        intro h
        have := congrArg List.length h
        simp [curOf] at this
        omega
      rw [if_neg hne]
      simp only [closeSpans, List.map_append, List.map_cons, List.map_nil, hex, curOf]
  intro f
  induction f with
  | zero =>
    intro pos st acc hf hp hst
    obtain rfl : pos = s.size := by omega
    exact hend 0 st acc hst
  | succ f ih =>
    intro pos st acc hf hp hst
    by_cases hlt : pos < s.size
    · obtain ⟨h1, h2, h3, h4⟩ := slash_step s pos hlt
      unfold spansFromP
      rw [if_pos hlt]
      cases hr : ((Utf8.decode s pos).1 == 47)
      · have h4 := h4 hr
        rw [if_neg (by simp)]
        have hb : s.data.toList.drop pos = (s.data.toList.drop pos).take (Utf8.decode s pos).2 ++ s.data.toList.drop (pos + (Utf8.decode s pos).2) := by
          rw [← List.drop_drop, List.take_append_drop]
        have hall : ∀ x ∈ (s.data.toList.drop pos).take (Utf8.decode s pos).2, x ≠ 47 := by
          intro x hx
          obtain ⟨j, hj⟩ := List.mem_iff_getElem?.1 hx
          rw [List.getElem?_take] at hj
          split at hj
          · rw [List.getElem?_drop] at hj
            exact h4 (pos + j) x (by omega) (by omega) hj
          · cases hj
        rw [hb, fieldsB_run _ _ _ hall]
        cases st with
        | none =>
          simp only
          rw [ih _ _ _ (by omega) (by omega) (by intro a ha; cases ha; omega)]
          simp [curOf]
        | some a =>
          have ha := hst a rfl
          simp only
          rw [ih _ _ _ (by omega) (by omega) (by intro a' ha'; cases ha'; omega)]
          have : curOf s.data.toList (pos + (Utf8.decode s pos).2) (some a) = curOf s.data.toList pos (some a) ++ (s.data.toList.drop pos).take (Utf8.decode s pos).2 := by
            simp only [curOf]
            rw [show pos + (Utf8.decode s pos).2 - a = (pos - a) + (Utf8.decode s pos).2 by omega, List.take_add, List.drop_drop, show a + (pos - a) = pos by omega]
          rw [this]
      · obtain ⟨hd, hx⟩ := h3 hr
        rw [if_pos rfl, hd]
        have hb : s.data.toList.drop pos = 47 :: s.data.toList.drop (pos + 1) := by
          have hl : pos < s.data.toList.length := by omega
          rw [List.drop_eq_getElem_cons hl]
          congr 1
          exact (List.getElem?_eq_some_iff.1 hx).2
        rw [hb, fieldsB_slash]
        cases st with
        | none =>
          simp only
          rw [ih _ _ _ (by omega) (by omega) (by intro a ha; cases ha)]
          simp [curOf]
        | some a =>
          have ha := hst a rfl
          have hne : curOf s.data.toList pos (some a) ≠ [] := by
            intro h
            have := congrArg List.length h
            simp [curOf] at this
            omega
          simp only
          rw [ih _ _ _ (by omega) (by omega) (by intro a' ha'; cases ha'), if_neg hne]
          simp only [curOf, List.map_append, List.map_cons, List.map_nil, List.append_assoc, List.cons_append, List.nil_append, hex]
    · obtain rfl : pos = s.size := by omega
      exact hend _ st acc hst

def mkS (l : List UInt8) : ByteArray := ⟨l.toArray⟩
theorem mkS_data (s : ByteArray) : mkS s.data.toList = s := by cases s; simp [mkS]
theorem data_mkS (l : List UInt8) : (mkS l).data.toList = l := by simp [mkS]
/-- A path's pieces. -/
def splitL (s : ByteArray) : List ByteArray := (fieldsB [] s.data.toList).map mkS
theorem goFields_slash (s : ByteArray) : goFieldsP (fun r => r == 47) s = splitL s := by
  have h := spans_slash s s.size 0 none [] (by omega) (by omega) (by intro a ha; cases ha)
  unfold splitL
  simp only [curOf, List.map_nil, List.nil_append, List.drop_zero] at h
  rw [← h, List.map_map]
  unfold goFieldsP spansOfP
  refine List.map_congr_left fun x _ => ?_
  exact (mkS_data _).symm

def splitE (s : ByteArray) : Int := if 255 < s.size then 36 else if s.data.toList.head? = some 47 then firstE (splitL s) else 22
def splitN (s : ByteArray) : List ByteArray := if splitE s = 0 then splitL s else []
def splitD (s : ByteArray) : Bool := decide (splitE s = 0) && (s.data.toList.getLast? == some 47)
end Go.Proofs.YtoofcnehoffllaaGreat

namespace Go.Proofs.YtoofcnehoffllaaGreat
open Go.RowKit

def SplitPost (w : World) (s : ByteArray) (e : Ending) (w' : World) : Prop :=
  ∃ v, e = .returned (.tuple #[v, .bool (splitD s), .int .i64 (splitE s)]) ∧ StrsAt w'.heap.size w' v (splitN s) ∧ Below w.heap.size w w'

theorem clone_any (s : ByteArray) (hs : s.size ≤ 1000000) (w : World) :
    Calls Tryz.prog 69 #[.string s] w fun e w' => e = .returned (.string s) ∧ Below w.heap.size w w' := by
  have hc := fun w => Tryz.stringslite_Clone s w (by omega)
  go_enter Tryz.func69, Tryz.ntmps69
  go_wp2_with fail
  refine (hc _).mono ?_
  rintro e w' ⟨rfl, hb⟩
  go_wp2_with fail
  go_ret
  exact ⟨rfl, hb⟩
theorem clip_any (ad : Addr) (n c : Nat) (hc : n ≤ c) (w : World) :
    Calls Tryz.prog 72 #[.slice (some ad) n c] w fun e w' => e = .returned (.slice (some ad) n n) ∧ w' = w := by
  have m0 : (0 : Int) ≤ (n : Int) := by omega
  have m1 : (n : Int) ≤ (c : Int) := by omega
  have m2 : (n : Int) ≤ (n : Int) := by omega
  go_enter Tryz.func72, Tryz.ntmps72
  go_wp2_with fail
  go_ret
  exact ⟨rfl, rfl⟩
theorem pred_slash (w : World) : PredGrows Tryz.prog 70 #[] (fun r => r == 47) w := by
  intro W x hx hb
  have he : (#[encR x] ++ (#[] : Array Value)) = #[.int .i32 x] := by simp [encR]
  rw [he]
  have hq : ((x : Int) == 47) = (x == 47) := by rw [Bool.eq_iff_iff, beq_iff_eq, beq_iff_eq]; omega
  go_enter Tryz.func70, Tryz.ntmps70
  go_wp2_with fail
  go_ret
  exact ⟨by first | (rw [← hq]; rfl) | (show _ = Ending.returned (.bool (x == 47)); rw [← hq]; rfl), Below.refl _ _⟩

theorem prefix_slash (l : List UInt8) : Lib.hasPrefix l [47] = (l.head? == some 47) := by
  cases l with
  | nil => rfl
  | cons x r => simp [Lib.hasPrefix, List.isPrefixOf]; rw [Bool.eq_iff_iff, beq_iff_eq, beq_iff_eq]; exact eq_comm
theorem suffix_slash (l : List UInt8) : Lib.hasSuffix l [47] = (l.getLast? == some 47) := by
  unfold Lib.hasSuffix
  rw [Bool.eq_iff_iff, beq_iff_eq, List.isSuffixOf_iff_suffix]
  constructor
  · rintro ⟨t, rfl⟩; simp
  · intro h
    obtain ⟨t, rfl⟩ := List.getLast?_eq_some_iff.1 h
    exact ⟨t, rfl⟩

theorem extract_size_le (s : ByteArray) (a b : Nat) : (s.extract a b).size ≤ s.size := by
  rw [ByteArray.size_extract]; omega
theorem splitL_size (s x : ByteArray) (h : x ∈ splitL s) : x.size ≤ s.size := by
  rw [← goFields_slash] at h
  unfold Lib.goFieldsP at h
  obtain ⟨p, _, rfl⟩ := List.mem_map.1 h
  exact extract_size_le _ _ _
theorem fieldsB_count : ∀ (r cur : List UInt8), (fieldsB cur r).length ≤ r.length + 1
  | [], cur => by rw [fieldsB_last]; split <;> simp
  | x :: r, cur => by
    rw [fieldsB]
    have h1 := fieldsB_count r []
    have h2 := fieldsB_count r (cur ++ [x])
    split
    · split <;> simp <;> omega
    · simp; omega
theorem splitL_count (s : ByteArray) : (splitL s).length ≤ s.size + 1 := by
  unfold splitL
  rw [List.length_map, Lib.size_eq]
  exact fieldsB_count _ _

set_option maxHeartbeats 1000000 in
theorem split_any (s : ByteArray) (hs : s.size ≤ 1000000) (w : World) : Calls Tryz.prog 42 #[.string s] w (SplitPost w s) := by
  by_cases hbig : 255 < s.size
  · have hE : splitE s = 36 := if_pos hbig
    have hN : splitN s = [] := by unfold splitN; rw [hE]; rfl
    have hD : splitD s = false := by unfold splitD; rw [hE]; rfl
    unfold SplitPost
    rw [hE, hN, hD]
    clear hE hN hD
    go_enter Tryz.func42, Tryz.ntmps42
    go_wp2_with fail
    go_ret3
    exact ⟨_, rfl, .nil, Below.refl _ _⟩
  · have hp := fun w => Tryz.strings_HasPrefix s ⟨#[47]⟩ w
    have hpe : Lib.hasPrefix s.data.toList (ByteArray.mk #[47]).data.toList = (s.data.toList.head? == some 47) := prefix_slash _
    rw [hpe] at hp
    clear hpe
    by_cases hh : s.data.toList.head? = some 47
    · have hh' : (s.data.toList.head? == some 47) = true := by rw [hh]; rfl
      rw [hh'] at hp
      have hE : splitE s = firstE (splitL s) := by unfold splitE; rw [if_neg hbig, if_pos hh]
      have hf := fun w => Tryz.strings_FieldsFunc_grows 70 #[] (enters_of Tryz.func70 (by kernel_rfl) rfl) (fun r => r == 47) s w (by omega) (pred_slash w)
      rw [goFields_slash] at hf
      have hsz : ∀ x ∈ splitL s, x.size ≤ 140737488355328 := fun x hx => by have := splitL_size s x hx; omega
      have hct := splitL_count s
      have hl : (splitL s).length ≤ 1000 := by omega
      have hsf := fun w => Tryz.strings_HasSuffix s ⟨#[47]⟩ w (by omega)
      have hse : Lib.hasSuffix s.data.toList (ByteArray.mk #[47]).data.toList = (s.data.toList.getLast? == some 47) := suffix_slash _
      rw [hse] at hsf
      clear hse
      have hD : ∀ c, splitE s = c → splitD s = (decide (c = 0) && (s.data.toList.getLast? == some 47)) := fun c hc => by unfold splitD; rw [hc]
      have hN : ∀ c, splitE s = c → splitN s = if c = 0 then splitL s else [] := fun c hc => by unfold splitN; rw [hc]
      have HD := Lib.hid hD; have HN := Lib.hid hN; have HE := Lib.hid hE; have HSZ := Lib.hid hsz
      have HSF := Lib.hid hsf; have HP := Lib.hid hp; have HF := Lib.hid hf
      generalize (s.data.toList.getLast? == some 47) = dd at *
      clear hD hN hE hsz hh hh' hsf hp hf hct
      generalize splitL s = L at *
      go_enter Tryz.func42, Tryz.ntmps42
      go_wp2_with fail
      refine (HP.out _).mono ?_
      rintro e w1 ⟨rfl, hw⟩
      obtain rfl := hw.symm
      go_wp2_with fail
      refine (clone_any s hs _).mono ?_
      rintro e w2 ⟨rfl, hb2⟩
      go_wp2_with fail
      refine (HF.out _).mono ?_
      rintro e w3 ⟨A, rfl, hA, hown, hb3⟩
      have hb3' := below_call hb2 hb3 (Nat.le_refl _)
      have hst := StrsAt.own hown
      go_wp2_with fail
      refine (first_any hst (Nat.le_refl _) HSZ.out (by omega)).mono ?_
      rintro e w4 ⟨rfl, hb4⟩
      have hb4' := below_call hb3' hb4 (Nat.le_refl _)
      have hst4 := (hst.below hb4).mono hb4.size
      clear hst hown hb3 hb2 hb3' hb4 hA
      by_cases h0 : firstE L = 0
      · have hE0 := HE.out.trans h0
        rw [h0]
        clear h0
        go_wp2_with fail
        refine (clip_any ⟨A, 0, none⟩ L.length L.length (Nat.le_refl _) _).mono ?_
        rintro e w5 ⟨rfl, hw⟩
        obtain rfl := hw.symm
        have HE0 := Lib.hid hE0; clear hE0
        go_wp2_with fail
        refine (HSF.out _).mono ?_
        rintro e w6 ⟨rfl, hw⟩
        obtain rfl := hw.symm
        go_wp2_with fail
        go_ret3
        refine ⟨.slice (some ⟨A, 0, none⟩) L.length L.length, ?_, ?_, hb4'⟩
        · rw [HD.out 0 HE0.out, HE0.out]; rfl
        · rw [HN.out 0 HE0.out, if_pos rfl]; exact hst4
      · have h1 : (firstE L == 0) = false := by simpa using h0
        have hE1 := HE.out
        have hN1 := HN.out _ hE1
        rw [if_neg h0] at hN1
        have hD1 := HD.out _ hE1
        rw [decide_eq_false h0, Bool.false_and] at hD1
        have HE1 := Lib.hid hE1; have HN1 := Lib.hid hN1; have HD1 := Lib.hid hD1
        clear hE1 hN1 hD1 HE HN HD h0 hst4
        generalize firstE L = q at *
        go_wp2_with fail
        go_ret3
        refine ⟨.slice none 0 0, ?_, ?_, hb4'⟩
        · rw [HE1.out, HD1.out]; rfl
        · rw [HN1.out]; exact .nil
    · have hh' : (s.data.toList.head? == some 47) = false := by simpa using hh
      rw [hh'] at hp
      have hE : splitE s = 22 := by unfold splitE; rw [if_neg hbig, if_neg hh]
      have hN : splitN s = [] := by unfold splitN; rw [hE]; rfl
      have hD : splitD s = false := by unfold splitD; rw [hE]; rfl
      unfold SplitPost
      rw [hE, hN, hD]
      clear hE hN hD hh hh'
      go_enter Tryz.func42, Tryz.ntmps42
      go_wp2_with fail
      refine (hp _).mono ?_
      rintro e w1 ⟨rfl, hw⟩
      obtain rfl := hw.symm
      go_wp2_with fail
      go_ret3
      exact ⟨_, rfl, .nil, Below.refl _ _⟩
end Go.Proofs.YtoofcnehoffllaaGreat
