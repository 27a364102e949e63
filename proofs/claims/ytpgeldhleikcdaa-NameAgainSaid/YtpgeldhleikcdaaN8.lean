/- The fixed fact: marllaw08.awake answers true. -/
import Derived.Test.YtpgeldhleikcdaaN7
namespace Go.Proofs.Ytpgeldhleikcdaa
open Go.RowKit

theorem StrsAt.alloc {B : Nat} {w : World} {v : Value} {l : List ByteArray} (h : StrsAt B w v l) (hB : B ≤ w.heap.size) (o : Obj) : StrsAt B (w.alloc o) v l := h.below ((Below.refl B w).alloc hB o)
theorem StrsAt.built {w : World} {l : List ByteArray} (c : Array Value) (hc : c = (l.map Value.string).toArray) (hl : 0 < l.length) (t : TypeId) : StrsAt (w.heap.size + 1) (w.alloc (.cells c t)) (.slice (some ⟨w.heap.size, 0, none⟩) l.length l.length) l := by
  refine .inr ⟨_, _, _, rfl, Nat.le_refl _, hl, Nat.lt_succ_self _, fun j x hx => ?_⟩
  rw [Nat.zero_add]
  refine cell_blk_some (blk_new rfl) ?_
  rw [hc]; simp [hx]

theorem texts_same {B : Nat} {w : World} {u v : Value} {l : List ByteArray} (h : StrsAt B w u l) (h' : StrsAt B w v l) (hB : B ≤ w.heap.size) (hl : l.length ≤ 1000) :
    Calls Try.prog 12 #[u, v] w fun e w' => e = .returned (.bool true) ∧ Below w.heap.size w w' := by
  have := texts_any h h' hB (by omega) (by omega)
  rw [show decide (l = l) = true from dec_true rfl] at this
  exact this
theorem e1 : splitE ⟨#[47, 47, 97, 47, 98, 47]⟩ = 0 := by decide +kernel
theorem n1 : splitN ⟨#[47, 47, 97, 47, 98, 47]⟩ = [⟨#[97]⟩, ⟨#[98]⟩] := by unfold splitN; rw [e1]; rfl
theorem d1 : splitD ⟨#[47, 47, 97, 47, 98, 47]⟩ = true := by unfold splitD; rw [e1]; rfl
theorem e2 : splitE ⟨#[47, 97, 47, 46, 46, 47, 98]⟩ = 22 := by decide +kernel
theorem d2 : splitD ⟨#[47, 97, 47, 46, 46, 47, 98]⟩ = false := by unfold splitD; rw [e2]; rfl

set_option maxHeartbeats 1000000 in
theorem awake_any (w : World) : Calls Try.prog 9 #[] w fun e w' => e = .returned (.bool true) ∧ Below w.heap.size w w' := by
  have s1 := fun w => split_any ⟨#[47, 47, 97, 47, 98, 47]⟩ (by decide) w
  have s2 := fun w => split_any ⟨#[47, 97, 47, 46, 46, 47, 98]⟩ (by decide) w
  have j := fun w => join_any (B := 0) (w := w) (v := .slice none 0 0) (l := []) .nil (Nat.zero_le _) (fun x hx => by cases hx) (by decide)
  unfold SplitPost at s1 s2
  rw [e1, n1, d1] at s1
  rw [e2, d2] at s2
  have je : joinE [] = 0 := rfl
  have jp : joinP [] = ⟨#[47]⟩ := rfl
  rw [je, jp] at j
  have S1 := Lib.hid s1; have S2 := Lib.hid s2; have J := Lib.hid j
  clear s1 s2 j je jp
  go_enter Try.func9, Try.ntmps9
  go_wp2_with fail
  refine (S1.out _).mono ?_
  rintro e w1 ⟨v, rfl, hv, hb1⟩
  go_wp2_with fail
  refine (S2.out _).mono ?_
  rintro e w2 ⟨v2, rfl, -, hb2⟩
  have hv2 := (hv.below hb2).mono hb2.size
  have hb := below_call hb1 hb2 (Nat.le_refl _)
  clear hb1 hb2 hv
  go_wp2_with fail
  refine (J.out _).mono ?_
  rintro e w3 ⟨rfl, hb3⟩
  have hv3 := (hv2.below hb3).mono hb3.size
  have hb' := below_call hb hb3 (Nat.le_refl _)
  clear hb hb3 hv2
  have ht := texts_any (B := w3.heap.size + 1) (w := w3.alloc (.cells #[.string ⟨#[97]⟩, .string ⟨#[98]⟩] 9)) (u := v) ((hv3.alloc (Nat.le_refl _) _).mono (Nat.le_succ _)) (StrsAt.built (l := [⟨#[97]⟩, ⟨#[98]⟩]) _ rfl (by decide) _) (by simp) (by decide) (by decide)
  have HT := Lib.hid ht; clear ht
  go_wp2_with fail
  refine HT.out.mono ?_
  rintro e w4 ⟨rfl, hb4⟩
  have hb := below_call (below_alloc hb' (Nat.le_refl _) _) hb4 (Nat.le_refl _)
  clear hb4 hb'
  go_wp2_with fail
  go_ret
  exact ⟨rfl, hb⟩
end Go.Proofs.Ytpgeldhleikcdaa
