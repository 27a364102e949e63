/- The fixed fact: awake answers true. -/
import Derived.Test.YtoofcnehoffllaaT33
namespace Go.Proofs.Ytoofcnehoffllaa
open Go.RowKit

theorem StrsAt.built {w : World} {l : List ByteArray} (c : Array Value) (hc : c = (l.map Value.string).toArray) (hl : 0 < l.length) (t : TypeId) : StrsAt (w.heap.size + 1) (w.alloc (.cells c t)) (.slice (some ⟨w.heap.size, 0, none⟩) l.length l.length) l := by
  refine .inr ⟨_, _, _, rfl, Nat.le_refl _, hl, Nat.lt_succ_self _, fun j x hx => ?_⟩
  rw [Nat.zero_add]
  refine cell_blk_some (blk_new rfl) ?_
  rw [hc]; simp [hx]
/-- A tree of a call's own: its blocks are new since w0. -/
structure LAt (w0 w : World) (tb cap : Nat) (M : TM) : Prop where
  at_ : TAt w tb cap (fun b => w0.heap.size ≤ b) M
  good : Good M cap
  bel : Below w0.heap.size w0 w
section
variable {w0 w w' : World} {tb cap : Nat} {M M' : TM}
theorem LAt.left (h : LAt w0 w tb cap M) (hl : TLeft w w' tb cap (fun b => w0.heap.size ≤ b) M') (hg : Good M' cap) : LAt w0 w' tb cap M' := by
  obtain ⟨⟨nb, P, E, V, hT, hF⟩, hfr⟩ := hl
  have hs := h.bel.size
  exact ⟨⟨nb, P, E, V, hT, fun b hb => (hF b hb).elim id fun h => by omega⟩, hg, h.bel.trans (hfr.toBelow hs fun x hx => hx)⟩
theorem LAt.below (h : LAt w0 w tb cap M) (hb : Below w.heap.size w w') : LAt w0 w' tb cap M := by
  obtain ⟨nb, P, E, V, hT, hF⟩ := h.at_
  exact ⟨⟨nb, P, E, V, hT.below hb, hF⟩, h.good, below_call h.bel hb (Nat.le_refl _)⟩
theorem LAt.new {n tb nb eb b2 : Nat} (h4 : 4 ≤ n) (hT : TIn w tb nb (n + 1) (at2 b2) (at2 eb) (fun _ => .slice none 0 0) newM) (h1 : w0.heap.size ≤ tb) (h2 : w0.heap.size ≤ nb) (h3 : w0.heap.size ≤ eb) (h5 : w0.heap.size ≤ b2) (hb : Below w0.heap.size w0 w) : LAt w0 w tb (n + 1) newM := by
  refine ⟨⟨nb, _, _, _, hT, fun b hb => ?_⟩, newM_full (by omega), hb⟩
  have key : ∀ {c i x : Nat}, at2 c i = some x → x = c := fun {c i x} h => by
    unfold at2 at h
    split at h
    · injection h with h; exact h.symm
    · cases h
  rcases hb with h | h | ⟨i, h⟩ | ⟨i, h⟩ | ⟨i, h⟩
  · show _ ≤ b; omega
  · show _ ≤ b; omega
  · have := key h; show _ ≤ b; omega
  · have := key h; show _ ≤ b; omega
  · cases h
theorem LAt.create (h : LAt w0 w tb cap M) (s : ByteArray) (hs : s.size ≤ 1000000) :
    Calls Try.prog 11 #[.pointer (some ⟨tb, 0, none⟩), .string s] w fun e w' => e = .returned (.tuple #[.int .i64 (makeN M cap s false).1, .int .i64 (makeN M cap s false).2.1]) ∧ LAt w0 w' tb cap (makeN M cap s false).2.2 :=
  (create_any h.at_ s hs).mono fun _ _ ⟨a, b⟩ => ⟨a, h.left b (h.good.make s false)⟩
theorem LAt.mkdir (h : LAt w0 w tb cap M) (s : ByteArray) (hs : s.size ≤ 1000000) :
    Calls Try.prog 12 #[.pointer (some ⟨tb, 0, none⟩), .string s] w fun e w' => e = .returned (.tuple #[.int .i64 (makeN M cap s true).1, .int .i64 (makeN M cap s true).2.1]) ∧ LAt w0 w' tb cap (makeN M cap s true).2.2 :=
  (mkdir_any h.at_ s hs).mono fun _ _ ⟨a, b⟩ => ⟨a, h.left b (h.good.make s true)⟩
theorem LAt.unlink (h : LAt w0 w tb cap M) (s : ByteArray) (hs : s.size ≤ 1000000) :
    Calls Try.prog 13 #[.pointer (some ⟨tb, 0, none⟩), .string s] w fun e w' => e = .returned (.int .i64 (goneN M s false).1) ∧ LAt w0 w' tb cap (goneN M s false).2 :=
  (unlink_any h.at_ h.good.1 s hs).mono fun _ _ ⟨a, b⟩ => ⟨a, h.left b (h.good.gone s false)⟩
theorem LAt.rmdir (h : LAt w0 w tb cap M) (s : ByteArray) (hs : s.size ≤ 1000000) :
    Calls Try.prog 14 #[.pointer (some ⟨tb, 0, none⟩), .string s] w fun e w' => e = .returned (.int .i64 (goneN M s true).1) ∧ LAt w0 w' tb cap (goneN M s true).2 :=
  (rmdir_any h.at_ h.good.1 s hs).mono fun _ _ ⟨a, b⟩ => ⟨a, h.left b (h.good.gone s true)⟩
theorem LAt.link (h : LAt w0 w tb cap M) (old s : ByteArray) (ho : old.size ≤ 1000000) (hs : s.size ≤ 1000000) :
    Calls Try.prog 17 #[.pointer (some ⟨tb, 0, none⟩), .string old, .string s] w fun e w' => e = .returned (.int .i64 (linkN M old s).1) ∧ LAt w0 w' tb cap (linkN M old s).2 :=
  (link_any h.at_ h.good.1 old s ho hs).mono fun _ _ ⟨a, b⟩ => ⟨a, h.left b (h.good.link old s)⟩
theorem LAt.write (h : LAt w0 w tb cap M) (s : ByteArray) (hs : s.size ≤ 1000000) (at_ : Int) (hat : -9223372036854775808 ≤ at_ ∧ at_ ≤ 9223372036854775807) {dv : Value} {x : List Int}
    (hx : SrcG 1 w dv x.length (u8s x)) (hxF : 0 < x.length → ∀ a c ad, dv = .slice a x.length c → a = some ad → ¬ w0.heap.size ≤ ad.block) (hxl : x.length ≤ 1000000) (hb : ∀ y ∈ x, 0 ≤ y ∧ y < 256) :
    Calls Try.prog 21 #[.pointer (some ⟨tb, 0, none⟩), .string s, .int .i64 at_, dv] w fun e w' => e = .returned (.int .i64 (writeN M s at_ x).1) ∧ LAt w0 w' tb cap (writeN M s at_ x).2 :=
  (write_any h.at_ h.good.1 s hs at_ hat hx hxF hxl).mono fun _ _ ⟨a, b⟩ => ⟨a, h.left b (h.good.write s at_ hb)⟩
theorem LAt.trunc (h : LAt w0 w tb cap M) (s : ByteArray) (hs : s.size ≤ 1000000) (k : Int) (hk : -9223372036854775808 ≤ k ∧ k ≤ 9223372036854775807) :
    Calls Try.prog 20 #[.pointer (some ⟨tb, 0, none⟩), .string s, .int .i64 k] w fun e w' => e = .returned (.int .i64 (truncN M s k).1) ∧ LAt w0 w' tb cap (truncN M s k).2 :=
  (truncate_any h.at_ h.good.1 s hs k hk).mono fun _ _ ⟨a, b⟩ => ⟨a, h.left b (h.good.trunc s k)⟩
theorem LAt.walk (h : LAt w0 w tb cap M) : Calls Try.prog 15 #[.pointer (some ⟨tb, 0, none⟩)] w fun e w' => ∃ v l, e = .returned v ∧ WalkIs M l ∧ l.length ≤ 20100 ∧ StrsAt w'.heap.size w' v l ∧ Below w.heap.size w w' :=
  (walk_any h.at_ h.good.1 h.good.2).mono fun _ _ ⟨v, l, a, b, c, d, e⟩ => ⟨v, l, a, b, c, StrsAt.own d, e⟩
theorem LAt.le (h : LAt w0 w tb cap M) : w0.heap.size ≤ w.heap.size := h.bel.size
end
set_option maxHeartbeats 4000000 in
set_option maxRecDepth 100000 in
theorem awake_any (w : World) : Calls Try.prog 8 #[] w fun e w' => e = .returned (.bool true) ∧ Below w.heap.size w w' := by
  obtain ⟨M1, M2, M3, M4, M5, M6, G1, G2, G3, G4, G5, G6, m1, m2, m3, m4, m5, m6, hw⟩ := awake_plain
  have HN := Lib.hid (new_any (n := 10) (by decide) (by decide) w)
  have Q1 := Lib.hid m1; have Q2 := Lib.hid m2; have Q3 := Lib.hid m3; have Q4 := Lib.hid m4; have Q5 := Lib.hid m5; have Q6 := Lib.hid m6; have HW := Lib.hid hw
  clear m1 m2 m3 m4 m5 m6 hw G1 G2 G3 G4 G5 G6
  go_enter Try.func8, Try.ntmps8
  go_wp2_with fail
  refine HN.out.mono ?_
  rintro e w1 ⟨tb, nb, eb, b2, rfl, hT, h1, h2, h3, h4, hb1⟩
  have L1 := LAt.new (by decide) hT h1 h2 h3 h4 hb1
  have C1 := L1.mkdir ⟨#[47, 100]⟩ (by decide)
  rw [Q1.out] at C1
  have HC1 := Lib.hid C1
  clear HN hT h1 h2 h3 h4 hb1 C1 L1
  go_wp2_with fail
  refine HC1.out.mono ?_
  rintro e w2 ⟨rfl, L2⟩
  have C2 := L2.create ⟨#[47, 100, 47, 102]⟩ (by decide)
  rw [Q2.out] at C2
  have HC2 := Lib.hid C2
  clear C2 L2 HC1
  go_wp2_with fail
  refine HC2.out.mono ?_
  rintro e w3 ⟨rfl, L3⟩
  have C3 := L3.link ⟨#[47, 100, 47, 102]⟩ ⟨#[47, 103]⟩ (by decide) (by decide)
  rw [Q3.out] at C3
  have HC3 := Lib.hid C3
  clear C3 L3 HC2
  go_wp2_with fail
  refine HC3.out.mono ?_
  rintro e w4 ⟨rfl, L4⟩
  have C4 := L4.unlink ⟨#[47, 100, 47, 102]⟩ (by decide)
  rw [Q4.out] at C4
  have HC4 := Lib.hid C4
  clear C4 L4 HC3
  go_wp2_with fail
  refine HC4.out.mono ?_
  rintro e w5 ⟨rfl, L5⟩
  have C5 := L5.rmdir ⟨#[47, 100]⟩ (by decide)
  rw [Q5.out] at C5
  have HC5 := Lib.hid C5
  clear C5 L5 HC4
  go_wp2_with fail
  refine HC5.out.mono ?_
  rintro e w6 ⟨rfl, L6⟩
  have C6 := L6.create ⟨#[47, 104]⟩ (by decide)
  rw [Q6.out] at C6
  have HC6 := Lib.hid C6
  clear C6 L6 HC5
  go_wp2_with fail
  refine HC6.out.mono ?_
  rintro e w7 ⟨rfl, L7⟩
  have HC7 := Lib.hid L7.walk
  have HL7 := Lib.hid L7
  clear L7 HC6
  go_wp2_with fail
  refine HC7.out.mono ?_
  rintro e w8 ⟨v, l, rfl, hl, -, hst, hb8⟩
  rw [HW.out l hl] at hst
  have hb := Lib.hid (HL7.out.below hb8).bel
  have ht := texts_any (B := w8.heap.size + 1) (w := w8.alloc (.cells #[.string ⟨#[47, 103]⟩, .string ⟨#[47, 104]⟩] 9)) (u := v) ((hst.below ((Below.refl _ w8).alloc (Nat.le_refl _) _)).mono (Nat.le_succ _)) (StrsAt.built (l := [⟨#[47, 103]⟩, ⟨#[47, 104]⟩]) _ rfl (by decide) _) (by simp) (by decide) (by decide)
  have HT := Lib.hid ht
  clear ht hst hl hb8 HC7
  go_wp2_with fail
  refine HT.out.mono ?_
  rintro e w9 ⟨rfl, hb9⟩
  have HB9 := Lib.hid (below_call (hb.out.alloc hb.out.size _) hb9 (Nat.le_refl _))
  clear hb9 HT
  go_wp2_with fail
  go_ret
  exact ⟨rfl, HB9.out⟩
end Go.Proofs.Ytoofcnehoffllaa
