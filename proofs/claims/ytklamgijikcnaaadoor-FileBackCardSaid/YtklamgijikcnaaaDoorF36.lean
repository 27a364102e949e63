/- Walks of inode's put, Block; of file's Block. -/
import Derived.Test.YtklamgijikcnaaaDoorF35
namespace Go.Proofs.YtklamgijikcnaaaDoor
open Go.RowKit

theorem elByte : ElT Tryd.prog 57 5 1 1 (.int .u8 0) := ⟨Tryd.underlying57, by kernel_rfl, by kernel_rfl, by decide⟩
def u8s (l : List Int) : List Value := l.map (Value.int .u8)
theorem u8s_length (l : List Int) : (u8s l).length = l.length * 1 := by unfold u8s; rw [List.length_map, Nat.mul_one]
theorem u8s_one (l : List Int) : ∀ u ∈ u8s l, u.oneCell' = true := fun u hu => by
  obtain ⟨_, _, rfl⟩ := List.mem_map.1 hu
  rfl
def OwnB (w : World) (B : Nat) (v : Value) (l : List Int) : Prop := w.ownsRow B 5 1 v l.length (u8s l)
theorem OwnB.nil (w : World) (B : Nat) : OwnB w B (.slice none 0 0) [] := ⟨rfl, .inl ⟨rfl, rfl⟩⟩
theorem OwnB.shape {w : World} {B : Nat} {v : Value} {l : List Int} (h : OwnB w B v l) : ∃ a c, v = .slice a l.length c := own_shape h
def fourN (n : Int) : List Int := [n % 256, n / 256 % 256, n / 65536 % 256, n / 16777216 % 256]
/-- While a number's bytes are put behind. -/
structure PutSt (w : World) (B : Nat) (v : Value) (l : List Int) (v' : Value) (wr : World) : Prop where
  own : OwnB wr B v' l
  fr : Fr (fun y => v.ownBlock = some y) w wr
  of : ∀ g, v'.ownBlock = some g → v.ownBlock = some g ∨ w.heap.size ≤ g
theorem PutSt.push {w wr w1 : World} {B : Nat} {v v' v1 : Value} {l : List Int} {x : Int} {k : Nat} (h : PutSt w B v l v' wr) (ho : w1.ownsRow B 5 1 v1 k (u8s l ++ [.int .u8 x])) (hk : k = l.length + 1) (hf : Fr (fun y => v'.ownBlock = some y) (wr.alloc (.cells #[.int .u8 x] 5)) w1) (hv : v1.ownBlock = v'.ownBlock ∨ v1.ownBlock = some (wr.heap.size + 1)) : PutSt w B v (l ++ [x]) v1 w1 := by
  have hz := h.fr.size
  refine ⟨?_, (h.fr.alloc _).trans' hf fun g hg hS => (h.of g hS).resolve_right (by omega), fun g hg => ?_⟩
  · unfold OwnB
    rw [List.length_append, List.length_singleton, ← hk, show u8s (l ++ [x]) = u8s l ++ [.int .u8 x] from List.map_append]
    exact ho
  · rcases hv with e | e
    · rw [e] at hg; exact h.of g hg
    · rw [e] at hg
      injection hg with hg
      rw [← hg]
      right
      omega
theorem srcOne (w : World) (x : Int) : SrcG 1 (w.alloc (.cells #[.int .u8 x] 5)) (.slice (some ⟨w.heap.size, 0, none⟩) 1 1) 1 [.int .u8 x] :=
  SrcG.block (blk_new rfl) rfl (fun u hu => by rw [List.mem_singleton] at hu; rw [hu]; rfl)
theorem PutSt.alloc {w wr : World} {B : Nat} {v v' : Value} {l : List Int} (h : PutSt w B v l v' wr) (x : Int) : (wr.alloc (.cells #[.int .u8 x] 5)).ownsRow B 5 1 v' l.length (u8s l) :=
  own_frame h.own (S := fun _ => False) ((Fr.refl _ wr).alloc _) fun _ _ => id
set_option maxHeartbeats 4000000 in
set_option maxRecDepth 100000 in
theorem put_four {w : World} {B : Nat} {v : Value} {l : List Int} (hown : OwnB w B v l) (n : Int) (h0 : 0 ≤ n) (h1 : n < 4294967296) (hl : l.length ≤ 1000) (hB : B ≤ w.heap.size) :
    Calls Tryd.prog 62 #[v, .int .i64 n, .int .i64 4] w fun e w' => ∃ v', e = .returned v' ∧ OwnB w' B v' (l ++ fourN n) ∧ Fr (fun y => v.ownBlock = some y) w w' ∧ ∀ g, v'.ownBlock = some g → v.ownBlock = some g ∨ w.heap.size ≤ g := by
  have P0 : Hid (PutSt w B v l v w) := Lib.hid ⟨hown, Fr.refl _ _, fun g hg => .inl hg⟩
  clear hown
  go_enter Tryd.func62, Tryd.ntmps62
  go_wp2_with fail
  refine wp_loop_rounds 5 ?_
  rw [rounds_succ]
  go_wp2_with (refine wpList_append_g (by rfl) (.tmp 12) (.tmp 18) (by rfl) elByte (by rfl) (P0.out.alloc _) (by rfl) (srcOne _ _) (by unfold maxLen; omega) (by omega) (Nat.le_trans hB ((P0.out.fr.alloc _).size)) ?_)
  intro v1 w1 ho1 hf1 hv1
  have P1 := Lib.hid (P0.out.push ho1 (by simp) hf1 hv1)
  clear ho1 hf1 hv1
  go_wp2_with fail
  rw [rounds_succ]
  go_wp2_with (refine wpList_append_g (by rfl) (.tmp 12) (.tmp 18) (by rfl) elByte (by rfl) (P1.out.alloc _) (by rfl) (srcOne _ _) (by unfold maxLen; simp; omega) (by simp; omega) (Nat.le_trans hB ((P1.out.fr.alloc _).size)) ?_)
  intro v2 w2 ho2 hf2 hv2
  have p2 : PutSt w B v (l ++ [n % 256, n / 256 % 256]) v2 w2 := by
    have := P1.out.push ho2 (by simp) hf2 hv2
    rw [List.append_assoc] at this
    exact this
  have P2 := Lib.hid p2
  clear ho2 hf2 hv2 p2
  go_wp2_with fail
  rw [rounds_succ]
  go_wp2_with (refine wpList_append_g (by rfl) (.tmp 12) (.tmp 18) (by rfl) elByte (by rfl) (P2.out.alloc _) (by rfl) (srcOne _ _) (by unfold maxLen; simp; omega) (by simp; omega) (Nat.le_trans hB ((P2.out.fr.alloc _).size)) ?_)
  intro v3 w3 ho3 hf3 hv3
  have p3 : PutSt w B v (l ++ [n % 256, n / 256 % 256, n / 65536 % 256]) v3 w3 := by
    have := P2.out.push ho3 (by simp) hf3 hv3
    rw [List.append_assoc] at this
    exact this
  have P3 := Lib.hid p3
  clear ho3 hf3 hv3 p3
  go_wp2_with fail
  rw [rounds_succ]
  go_wp2_with (refine wpList_append_g (by rfl) (.tmp 12) (.tmp 18) (by rfl) elByte (by rfl) (P3.out.alloc _) (by rfl) (srcOne _ _) (by unfold maxLen; simp; omega) (by simp; omega) (Nat.le_trans hB ((P3.out.fr.alloc _).size)) ?_)
  intro v4 w4 ho4 hf4 hv4
  have p4 : PutSt w B v (l ++ [n % 256, n / 256 % 256, n / 65536 % 256, n / 16777216 % 256]) v4 w4 := by
    have := P3.out.push ho4 (by simp) hf4 hv4
    rw [show n / 16777216 = n / 16777216 % 256 by omega] at this
    rw [List.append_assoc] at this
    exact this
  have P4 := Lib.hid p4
  clear ho4 hf4 hv4 p4
  go_wp2_with fail
  rw [rounds_succ]
  go_wp2_with fail
  go_ret
  have h4 := P4.out
  exact ⟨v4, rfl, h4.own, h4.fr, h4.of⟩
end Go.Proofs.YtklamgijikcnaaaDoor
