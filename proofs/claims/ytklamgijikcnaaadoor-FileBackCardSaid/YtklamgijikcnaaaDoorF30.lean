/- Walks of the reference's width, below. -/
import Derived.Test.YtklamgijikcnaaaDoorF29
namespace Go.Proofs.YtklamgijikcnaaaDoor
open Go.RowKit

set_option maxRecDepth 100000 in
theorem rwidth_any (l : Nat) (hl : l ≤ 3) (w : World) :
    Calls Tryd.prog 80 #[.int .i64 l] w fun e w' => e = .returned (.int .i64 (wideN l)) ∧ w' = w := by
  have hc : l = 0 ∨ l = 1 ∨ l = 2 ∨ l = 3 := by omega
  have i0 : ∀ w, (Instr.index 123 (.agg #[.int .i64 1, .int .i64 16, .int .i64 256, .int .i64 4096]) (.int .i64 l)).run Tryd.prog w = .ok (.int .i64 (wideN l)) w := by
    rcases hc with rfl | rfl | rfl | rfl <;> exact fun _ => by kernel_rfl
  clear hc
  generalize wideN l = r at i0 ⊢
  go_enter Tryd.func80, Tryd.ntmps80
  go_wp2_with fail
  go_ret
  exact ⟨rfl, rfl⟩
def BelRes (w : World) (B : Nat) (R : List MetaR) (e : Ending) (w' : World) : Prop := ∃ v, e = .returned v ∧ MetasAt w' w.heap.size B v R ∧ Below w.heap.size w w'
/-- While its sixteen are laid. -/
structure BelSt (w : World) (B pb qb : Nat) (root n lvl f : Int) (ms ss : List Int) (mv sv out : Value) (R : List MetaR) (wr : World) : Prop where
  box : wr.heap[pb]? = some (.cells #[.int .i64 root, mv, sv] 32 (0, 0))
  mbox : wr.heap[qb]? = some (.cells #[.int .i64 n, .int .i64 lvl, .int .i64 f, .int .i64 root, mv, sv] 34 (0, 0))
  mr : RowI wr B mv ms
  sr : RowI wr B sv ss
  out : MetasAt wr (qb + 1) B out R
  bel : Below w.heap.size w wr
  pq : pb < qb
  lo : w.heap.size ≤ pb
section
variable {w wr w3 : World} {B pb qb : Nat} {root n lvl f : Int} {ms ss : List Int} {mv sv out v3 : Value} {R R2 : List MetaR} {L1 L2 : List MetaV}
theorem BelSt.below (h : BelSt w B pb qb root n lvl f ms ss mv sv out R wr) (hb : Below wr.heap.size wr w3) : BelSt w B pb qb root n lvl f ms ss mv sv out R w3 :=
  ⟨(hb.block _ (blk_lt h.box)).trans h.box, (hb.block _ (blk_lt h.mbox)).trans h.mbox, h.mr.below hb, h.sr.below hb, h.out.below hb, below_call h.bel hb (Nat.le_refl _), h.pq, h.lo⟩
theorem BelSt.push (h : BelSt w B pb qb root n lvl f ms ss mv sv out R wr) (h1 : wr.ownsRow (qb + 1) 34 6 out L1.length (flat6 L1)) (m1 : MsAre wr B L1 R) (m2 : MsAre wr B L2 R2)
    (h3 : w3.ownsRow (qb + 1) 34 6 v3 (L1.length + L2.length) (flat6 L1 ++ flat6 L2)) (hf : Fr (fun y => out.ownBlock = some y) wr w3) : BelSt w B pb qb root n lvl f ms ss mv sv v3 (R ++ R2) w3 := by
  have hp := h.pq
  have hlo := h.lo
  have hs : ∀ (u : Value) l, RowI wr B u l → 0 < l.length → ∀ g, u.ownBlock = some g → ¬ out.ownBlock = some g := fun u l hu hl g hg => hu.off_own hl h1 (by decide) g hg
  refine ⟨(hf.block _ (blk_lt h.box) fun e => ?_).trans h.box, (hf.block _ (blk_lt h.mbox) fun e => ?_).trans h.mbox, h.mr.fr' hf (hs _ _ h.mr), h.sr.fr' hf (hs _ _ h.sr), MetasAt.grow h1 m1 m2 h3 hf, h.bel.trans (hf.toBelow (B := w.heap.size) h.bel.size fun x hx => ?_), hp, hlo⟩
  · have := (h1.lt _ e).1; omega
  · have := (h1.lt _ e).1; omega
  · have := (h1.lt _ hx).1; omega
end
/-- What each operation of the region says that lays the next path. -/
def F8 (Z pb qb : Nat) (root n i : Int) (ms ss : List Int) (mv sv : Value) (k : Nat) (y : Nat → Value) (tag : Nat → Nat) (w : World) : Prop :=
  match k with
  | 0 => y 0 = .pointer (some ⟨pb, 0, none⟩)
  | 1 => y 1 = .int .i64 root
  | 2 => Hold tag 1 w Z (y 2) []
  | 3 => y 3 = .pointer (some ⟨pb, 1, none⟩)
  | 4 => y 4 = mv
  | 5 => Hold tag 1 w Z (y 5) ms
  | 6 => y 6 = .pointer (some ⟨qb, 0, none⟩)
  | 7 => y 7 = .int .i64 n
  | 8 => Hold tag 2 w Z (y 8) [n]
  | 9 => Hold tag 1 w Z (y 9) (ms ++ [n])
  | 10 => Hold tag 3 w Z (y 10) []
  | 11 => y 11 = .pointer (some ⟨pb, 2, none⟩)
  | 12 => y 12 = sv
  | 13 => Hold tag 3 w Z (y 13) ss
  | 14 => y 14 = .int .i64 i
  | 15 => Hold tag 4 w Z (y 15) [i]
  | 16 => Hold tag 3 w Z (y 16) (ss ++ [i])
  | 17 => y 17 = .agg #[.int .i64 root, y 9, y 16]
  | 18 => ∃ nb, y 18 = .pointer (some ⟨nb, 0, none⟩) ∧ Z ≤ nb ∧ Blk tag 5 w nb (.cells #[.int .i64 0, .slice none 0 0, .slice none 0 0] 32 (0, 0))
  | 19 => ∃ nb, y 18 = .pointer (some ⟨nb, 0, none⟩) ∧ Z ≤ nb ∧ Blk tag 5 w nb (.cells #[.int .i64 root, y 9, y 16] 32 (0, 0))
  | _ => True
def C8 : Nat → List Nat
  | 2 => [5] | 5 => [9] | 8 => [9] | 10 => [13] | 13 => [16] | 15 => [16] | 18 => [19] | _ => []
theorem lt20 {k : Nat} (h : k < 20) : k = 0 ∨ k = 1 ∨ k = 2 ∨ k = 3 ∨ k = 4 ∨ k = 5 ∨ k = 6 ∨ k = 7 ∨ k = 8 ∨ k = 9 ∨ k = 10 ∨ k = 11 ∨ k = 12 ∨ k = 13 ∨ k = 14 ∨ k = 15 ∨ k = 16 ∨ k = 17 ∨ k = 18 ∨ k = 19 := by omega
set_option maxHeartbeats 4000000 in
set_option maxRecDepth 100000 in
theorem below_any : ∀ (k : Nat), k ≤ 3 → ∀ (f root : Int) (ms ss : List Int) (mv sv : Value) (w : World) (B : Nat), 0 ≤ f → ms.length + k ≤ 10 → ss.length + k ≤ 10 → RowI w B mv ms → RowI w B sv ss → B ≤ w.heap.size →
    Calls Tryd.prog 54 #[.int .i64 k, .int .i64 f, .agg #[.int .i64 root, mv, sv]] w (BelRes w B (belowN k f root ms ss)) := by
  intro k
  induction k with
  | zero =>
    intro _ f root ms ss mv sv w B _ _ _ _ _ _
    go_enter Tryd.func54, Tryd.ntmps54
    go_wp2_with fail
    go_ret
    exact ⟨_, rfl, MetasAt.nil _ _ _, (Below.refl _ _).alloc (Nat.le_refl _) _⟩
  | succ k ih =>
    have IH := Lib.hid ih
    clear ih
    intro hk f root ms ss mv sv w B h0 hm hs hmr hsr hB
    have hk0 : (((k : Int) + 1) == 0) = false := by rw [beq_eq_false_iff_ne]; omega
    have hk1 : (0 : Int) ≤ (k : Int) := by omega
    have hk2 : (k : Int) ≤ 2 := by omega
    have hz : ((k + 1 : Nat) : Int) = (k : Int) + 1 := by omega
    rw [hz]
    clear hz
    have MR := Lib.hid hmr; have SR := Lib.hid hsr
    obtain ⟨ma, mc, rfl⟩ := hmr.shape
    obtain ⟨sa, sc, rfl⟩ := hsr.shape
    clear hmr hsr
    unfold belowN
    by_cases hf : 600 ≤ f
    · rw [if_pos hf]
      go_enter Tryd.func54, Tryd.ntmps54
      go_wp2_with fail
      go_ret
      exact ⟨_, rfl, MetasAt.nil _ _ _, (Below.refl _ _).alloc (Nat.le_refl _) _⟩
    · rw [if_neg hf]
      have hf2 : decide ((600 : Int) ≤ f) = false := by simpa using hf
      go_enter Tryd.func54, Tryd.ntmps54
      go_wp2_with fail
      obtain ⟨w3, hw3⟩ : ∃ w3, w3 = (((w.alloc (.cells #[.int .i64 root, .slice ma ms.length mc, .slice sa ss.length sc] 32)).alloc (.cells #[.int .i64 (-f - k), .int .i64 (k + 1), .int .i64 f, .int .i64 root, .slice ma ms.length mc, .slice sa ss.length sc] 34)).alloc (.cells #[.int .i64 (-f - k), .int .i64 (k + 1), .int .i64 f, .int .i64 root, .slice ma ms.length mc, .slice sa ss.length sc] 34)) := ⟨_, rfl⟩
      have hb3 : Below w.heap.size w w3 := by rw [hw3]; exact (((Below.refl _ w).alloc (Nat.le_refl _) _).alloc (by simp) _).alloc (by simp; omega) _
      have hst : BelSt w B w.heap.size (w.heap.size + 1) root (-f - k) (k + 1) f ms ss (.slice ma ms.length mc) (.slice sa ss.length sc) (.slice (some ⟨w.heap.size + 1 + 1, 0, none⟩) 1 1) (⟨-f - k, k + 1, f, root, ms, ss⟩ :: kidsB k f root ms ss 0) w3 := by
        refine ⟨?_, ?_, MR.out.below hb3, SR.out.below hb3, ?_, hb3, by omega, Nat.le_refl _⟩
        · rw [hw3]; exact blk_old (blk_old (blk_new rfl))
        · rw [hw3]; exact blk_old (blk_new (by simp))
        · refine ⟨[⟨-f - k, k + 1, f, root, .slice ma ms.length mc, .slice sa ss.length sc⟩], own_block (by rw [hw3]; exact blk_new (by simp)) rfl rfl (by omega) (by decide), rfl, fun i x r hx hr => ?_⟩
          match i, hx, hr with
          | 0, hx, hr =>
            simp at hx hr
            subst hx hr
            exact ⟨rfl, rfl, rfl, rfl, MR.out.below hb3, SR.out.below hb3⟩
          | i + 1, hx, _ => simp at hx
      have K0 := Lib.hid hst
      rw [← hw3]
      clear hst hb3 hw3 MR SR
      generalize w.heap.size + 1 + 1 = ob at K0 ⊢
      obtain ⟨qb, hqb⟩ : ∃ qb, qb = w.heap.size + 1 := ⟨_, rfl⟩
      obtain ⟨pb, hpb⟩ : ∃ pb, pb = w.heap.size := ⟨_, rfl⟩
      rw [← hqb, ← hpb] at K0
      rw [← hqb, ← hpb]
      clear hqb hpb
      go_loopw [8, 9] (fun out idx wr => ∃ i : Nat, i ≤ 16 ∧ idx = .int .i64 i ∧ BelSt w B pb qb root (-f - k) (k + 1) f ms ss (.slice ma ms.length mc) (.slice sa ss.length sc) out (⟨-f - k, k + 1, f, root, ms, ss⟩ :: kidsB k f root ms ss i) wr) (fun _ idx _ => 16 - (RowKit.intOf idx).toNat)
      case atStart => exact ⟨0, by omega, rfl, K0.out⟩
      case round =>
        obtain ⟨i, hi, rfl, hst⟩ := hrel
        clear K0
        have HS := Lib.hid hst
        clear hst
        have IL := Lib.hid hB; have IM := Lib.hid hm; have IS := Lib.hid hs; have I0 := Lib.hid h0; have I2 := Lib.hid hk2; have I3 := Lib.hid hk; have I4 := Lib.hid hf; have I5 := Lib.hid hk1
        clear hk0 hf2 hk hB hm hs h0 hk1 hk2 hf
        by_cases hil : i < 16
        · have i0 : (0 : Int) ≤ (i : Int) := by omega
          go_upto_region 8 with fail
          generalize decide ((i : Int) < 16) = b29
          obtain ⟨w0, hw0⟩ : ∃ w0, w0 = wr.drew := ⟨_, rfl⟩
          have hS := HS.out
          have hz0 : w0.heap.size = wr.heap.size := by rw [hw0]; rfl
          have hb0 : w0.heap[pb]? = some (.cells #[.int .i64 root, .slice ma ms.length mc, .slice sa ss.length sc] 32 (0, 0)) := by rw [hw0]; exact hS.box
          have hq0 : w0.heap[qb]? = some (.cells #[.int .i64 (-f - k), .int .i64 (k + 1), .int .i64 f, .int .i64 root, .slice ma ms.length mc, .slice sa ss.length sc] 34 (0, 0)) := by rw [hw0]; exact hS.mbox
          have HMR := Lib.hid (show RowI w0 B _ _ from by rw [hw0]; exact hS.mr); have HSR := Lib.hid (show RowI w0 B _ _ from by rw [hw0]; exact hS.sr)
          have HB0 := Lib.hid hb0; have HQ0 := Lib.hid hq0; have HZ0 := Lib.hid hz0
          clear hb0 hq0 hz0 hS
          refine wp_region_facts (frame := fun y => ⟨#[.int .i64 (↑k + 1), .int .i64 f, .agg #[.int .i64 root, .slice ma ms.length mc, .slice sa ss.length sc], undef, undef, .pointer (some ⟨pb, 0, none⟩), .slice none 0 0, .pointer (some ⟨qb, 0, none⟩), u8, .int .i64 ↑i, y 18, .int .i64 (↑k + 1), .bool false, .bool false, .int .i64 f, .bool false, .bool false, .int .i64 f, .int .i64 (-f), .int .i64 (↑k + 1), .int .i64 ↑k, .int .i64 (-f - ↑k), .int .i64 (↑k + 1), .int .i64 f, .agg #[.int .i64 root, .slice ma ms.length mc, .slice sa ss.length sc], .agg #[.int .i64 (-f - ↑k), .int .i64 (↑k + 1), .int .i64 f, .int .i64 root, .slice ma ms.length mc, .slice sa ss.length sc], .agg #[.int .i64 (-f - ↑k), .int .i64 (↑k + 1), .int .i64 f, .int .i64 root, .slice ma ms.length mc, .slice sa ss.length sc], .slice (some ⟨ob, 0, none⟩) 1 1, .int .i64 ↑i, .bool b29, u30, u31, y 0, y 1, y 2, y 3, y 4, y 5, y 6, y 7, y 8, y 9, y 10, y 11, y 12, y 13, y 14, y 15, y 16, y 17, u50, u51, u52, u53, u54, u55, u56, u57, u58, u59, u60, u61, u62, undef], []⟩) (I := fun _ _ w2 => Fr (fun _ => False) w0 w2)
            (F := F8 wr.heap.size pb qb root (-f - k) i ms ss (.slice ma ms.length mc) (.slice sa ss.length sc)) (cons := C8) (fun k => [u32, u33, u34, u35, u36, u37, u38, u39, u40, u41, u42, u43, u44, u45, u46, u47, u48, u49, u10].getD k undef) (fun _ => 0) (by kernel_rfl) (by kernel_rfl) rfl (by rw [hw0]; exact Fr.refl _ _) ?_ ?_
          refine ⟨?_, ?_, ?_, ?_, ?_, ?_, ?_, ?_, ?_, ?_, ?_, ?_, ?_, ?_, ?_, ?_, ?_, ?_, ?_, ?_, trivial⟩
          · intro y tag w2 _ _ hI hp K hK
            go_simp
            refine hK (.pointer (some ⟨pb, 0, none⟩)) tag _ w2 rfl hI rfl ?_
            · intro k ok hok hk hp hc hF
              rcases lt20 (Array.getElem?_eq_some_iff.1 hok).1 with rfl | rfl | rfl | rfl | rfl | rfl | rfl | rfl | rfl | rfl | rfl | rfl | rfl | rfl | rfl | rfl | rfl | rfl | rfl | rfl
              all_goals first | exact hF | exact (hk rfl).elim | exact ((hc _ List.mem_cons_self).1 rfl).elim | exact ((hc _ List.mem_cons_self).2 (by obtain rfl := Option.some.inj hok; decide)).elim | exact (hp (by obtain rfl := Option.some.inj hok; decide)).elim
          · intro y tag w2 _ _ hI hp K hK
            have h0 : y 0 = .pointer (some ⟨pb, 0, none⟩) := hp 0 (by decide) (fun c hc => by cases hc)
            have c0 : w2.cell? ⟨pb, 0, none⟩ = some (.int .i64 root) := cell_blk_some ((hI.block pb (blk_lt HB0.out) id).trans HB0.out) rfl
            go_simp
            refine hK (.int .i64 root) tag _ w2 (by simp [updV, h0]) hI rfl ?_
            · intro k ok hok hk hp hc hF
              rcases lt20 (Array.getElem?_eq_some_iff.1 hok).1 with rfl | rfl | rfl | rfl | rfl | rfl | rfl | rfl | rfl | rfl | rfl | rfl | rfl | rfl | rfl | rfl | rfl | rfl | rfl | rfl
              all_goals first | exact hF | exact (hk rfl).elim | exact ((hc _ List.mem_cons_self).1 rfl).elim | exact ((hc _ List.mem_cons_self).2 (by obtain rfl := Option.some.inj hok; decide)).elim | exact (hp (by obtain rfl := Option.some.inj hok; decide)).elim
          · intro y tag w2 _ _ hI hp K hK
            have hz : wr.heap.size ≤ w2.heap.size := by have := hI.size; rw [HZ0.out] at this; exact this
            go_simp
            refine hK (.slice (some ⟨w2.heap.size, 0, none⟩) 0 0) (updT tag w2.heap.size 1) _ (w2.alloc (.cells #[] 3)) rfl (hI.alloc _) (Hold.new tag 1 w2 _ #[] [] rfl hz) ?_
            · intro k ok hok hk hp hc hF
              rcases lt20 (Array.getElem?_eq_some_iff.1 hok).1 with rfl | rfl | rfl | rfl | rfl | rfl | rfl | rfl | rfl | rfl | rfl | rfl | rfl | rfl | rfl | rfl | rfl | rfl | rfl | rfl
              all_goals first | exact Hold.alloc hF _ _ | (obtain ⟨nb, e1, e2, e3⟩ := hF; exact ⟨nb, e1, e2, e3.alloc _ _⟩) | exact hF | exact (hk rfl).elim | exact ((hc _ List.mem_cons_self).1 rfl).elim | exact ((hc _ List.mem_cons_self).2 (by obtain rfl := Option.some.inj hok; decide)).elim | exact (hp (by obtain rfl := Option.some.inj hok; decide)).elim
          · intro y tag w2 _ _ hI hp K hK
            go_simp
            refine hK (.pointer (some ⟨pb, 1, none⟩)) tag _ w2 rfl hI rfl ?_
            · intro k ok hok hk hp hc hF
              rcases lt20 (Array.getElem?_eq_some_iff.1 hok).1 with rfl | rfl | rfl | rfl | rfl | rfl | rfl | rfl | rfl | rfl | rfl | rfl | rfl | rfl | rfl | rfl | rfl | rfl | rfl | rfl
              all_goals first | exact hF | exact (hk rfl).elim | exact ((hc _ List.mem_cons_self).1 rfl).elim | exact ((hc _ List.mem_cons_self).2 (by obtain rfl := Option.some.inj hok; decide)).elim | exact (hp (by obtain rfl := Option.some.inj hok; decide)).elim
          · intro y tag w2 _ _ hI hp K hK
            have h3 : y 3 = .pointer (some ⟨pb, 1, none⟩) := hp 3 (by decide) (fun c hc => by cases hc)
            have c0 : w2.cell? ⟨pb, 1, none⟩ = some (.slice ma ms.length mc) := cell_blk_some ((hI.block pb (blk_lt HB0.out) id).trans HB0.out) rfl
            go_simp
            refine hK (.slice ma ms.length mc) tag _ w2 (by simp [updV, h3]) hI rfl ?_
            · intro k ok hok hk hp hc hF
              rcases lt20 (Array.getElem?_eq_some_iff.1 hok).1 with rfl | rfl | rfl | rfl | rfl | rfl | rfl | rfl | rfl | rfl | rfl | rfl | rfl | rfl | rfl | rfl | rfl | rfl | rfl | rfl
              all_goals first | exact hF | exact (hk rfl).elim | exact ((hc _ List.mem_cons_self).1 rfl).elim | exact ((hc _ List.mem_cons_self).2 (by obtain rfl := Option.some.inj hok; decide)).elim | exact (hp (by obtain rfl := Option.some.inj hok; decide)).elim
          · intro y tag w2 _ _ hI hp K hK
            have h2 : Hold tag 1 w2 wr.heap.size (y 2) [] := hp 2 (by decide) (fun c hc => by simpa [C8] using hc)
            have h4 : y 4 = .slice ma ms.length mc := hp 4 (by decide) (fun c hc => by cases hc)
            have hz : wr.heap.size ≤ w2.heap.size := by have := hI.size; rw [HZ0.out] at this; exact this
            have hm := IM.out; have hs := IS.out
            refine step_append_rows rfl (.tmp 34) (.tmp 36) rfl rfl h2.own h4 (HMR.out.fr hI fun _ _ => id) (by simp; try omega) hz ?_
            intro v w3 ho hf hv
            refine hK v (updT tag w2.heap.size 1) _ w3 rfl (hf.zero (fun g hg => (h2.own.lt g hg).1) hI (by rw [HZ0.out]; exact Nat.le_refl _)) (h2.grow ho hv) ?_
            · intro k ok hok hk hp hc hF
              rcases lt20 (Array.getElem?_eq_some_iff.1 hok).1 with rfl | rfl | rfl | rfl | rfl | rfl | rfl | rfl | rfl | rfl | rfl | rfl | rfl | rfl | rfl | rfl | rfl | rfl | rfl | rfl
              all_goals first | exact Hold.other hF h2 hf (by decide) | (obtain ⟨nb, e1, e2, e3⟩ := hF; exact ⟨nb, e1, e2, e3.other h2 hf (by decide)⟩) | exact hF | exact (hk rfl).elim | exact ((hc _ List.mem_cons_self).1 rfl).elim | exact ((hc _ List.mem_cons_self).2 (by obtain rfl := Option.some.inj hok; decide)).elim | exact (hp (by obtain rfl := Option.some.inj hok; decide)).elim
          · intro y tag w2 _ _ hI hp K hK
            go_simp
            refine hK (.pointer (some ⟨qb, 0, none⟩)) tag _ w2 rfl hI rfl ?_
            · intro k ok hok hk hp hc hF
              rcases lt20 (Array.getElem?_eq_some_iff.1 hok).1 with rfl | rfl | rfl | rfl | rfl | rfl | rfl | rfl | rfl | rfl | rfl | rfl | rfl | rfl | rfl | rfl | rfl | rfl | rfl | rfl
              all_goals first | exact hF | exact (hk rfl).elim | exact ((hc _ List.mem_cons_self).1 rfl).elim | exact ((hc _ List.mem_cons_self).2 (by obtain rfl := Option.some.inj hok; decide)).elim | exact (hp (by obtain rfl := Option.some.inj hok; decide)).elim
          · intro y tag w2 _ _ hI hp K hK
            have h6 : y 6 = .pointer (some ⟨qb, 0, none⟩) := hp 6 (by decide) (fun c hc => by cases hc)
            have c0 : w2.cell? ⟨qb, 0, none⟩ = some (.int .i64 (-f - k)) := cell_blk_some ((hI.block qb (blk_lt HQ0.out) id).trans HQ0.out) rfl
            go_simp
            refine hK (.int .i64 (-f - k)) tag _ w2 (by simp [updV, h6]) hI rfl ?_
            · intro k ok hok hk hp hc hF
              rcases lt20 (Array.getElem?_eq_some_iff.1 hok).1 with rfl | rfl | rfl | rfl | rfl | rfl | rfl | rfl | rfl | rfl | rfl | rfl | rfl | rfl | rfl | rfl | rfl | rfl | rfl | rfl
              all_goals first | exact hF | exact (hk rfl).elim | exact ((hc _ List.mem_cons_self).1 rfl).elim | exact ((hc _ List.mem_cons_self).2 (by obtain rfl := Option.some.inj hok; decide)).elim | exact (hp (by obtain rfl := Option.some.inj hok; decide)).elim
          · intro y tag w2 _ _ hI hp K hK
            have h7 : y 7 = .int .i64 (-f - k) := hp 7 (by decide) (fun c hc => by cases hc)
            have hz : wr.heap.size ≤ w2.heap.size := by have := hI.size; rw [HZ0.out] at this; exact this
            go_simp
            refine hK (.slice (some ⟨w2.heap.size, 0, none⟩) 1 1) (updT tag w2.heap.size 2) _ (w2.alloc (.cells #[.int .i64 (-f - k)] 3)) (by simp [updV, h7]) (hI.alloc _) (Hold.new tag 2 w2 _ #[.int .i64 (-f - k)] [-f - (k : Int)] rfl hz) ?_
            · intro k ok hok hk hp hc hF
              rcases lt20 (Array.getElem?_eq_some_iff.1 hok).1 with rfl | rfl | rfl | rfl | rfl | rfl | rfl | rfl | rfl | rfl | rfl | rfl | rfl | rfl | rfl | rfl | rfl | rfl | rfl | rfl
              all_goals first | exact Hold.alloc hF _ _ | (obtain ⟨nb, e1, e2, e3⟩ := hF; exact ⟨nb, e1, e2, e3.alloc _ _⟩) | exact hF | exact (hk rfl).elim | exact ((hc _ List.mem_cons_self).1 rfl).elim | exact ((hc _ List.mem_cons_self).2 (by obtain rfl := Option.some.inj hok; decide)).elim | exact (hp (by obtain rfl := Option.some.inj hok; decide)).elim
          · intro y tag w2 _ _ hI hp K hK
            have h5 : Hold tag 1 w2 wr.heap.size (y 5) ms := hp 5 (by decide) (fun c hc => by simpa [C8] using hc)
            have h8 : Hold tag 2 w2 wr.heap.size (y 8) [-f - (k : Int)] := hp 8 (by decide) (fun c hc => by simpa [C8] using hc)
            have hz : wr.heap.size ≤ w2.heap.size := by have := hI.size; rw [HZ0.out] at this; exact this
            have hm := IM.out; have hs := IS.out
            refine step_append_rows rfl (.tmp 37) (.tmp 40) rfl rfl h5.own rfl h8.own.row (by simp; try omega) hz ?_
            intro v w3 ho hf hv
            refine hK v (updT tag w2.heap.size 1) _ w3 rfl (hf.zero (fun g hg => (h5.own.lt g hg).1) hI (by rw [HZ0.out]; exact Nat.le_refl _)) (h5.grow ho hv) ?_
            · intro k ok hok hk hp hc hF
              rcases lt20 (Array.getElem?_eq_some_iff.1 hok).1 with rfl | rfl | rfl | rfl | rfl | rfl | rfl | rfl | rfl | rfl | rfl | rfl | rfl | rfl | rfl | rfl | rfl | rfl | rfl | rfl
              all_goals first | exact Hold.other hF h5 hf (by decide) | (obtain ⟨nb, e1, e2, e3⟩ := hF; exact ⟨nb, e1, e2, e3.other h5 hf (by decide)⟩) | exact hF | exact (hk rfl).elim | exact ((hc _ List.mem_cons_self).1 rfl).elim | exact ((hc _ List.mem_cons_self).2 (by obtain rfl := Option.some.inj hok; decide)).elim | exact (hp (by obtain rfl := Option.some.inj hok; decide)).elim
          · intro y tag w2 _ _ hI hp K hK
            have hz : wr.heap.size ≤ w2.heap.size := by have := hI.size; rw [HZ0.out] at this; exact this
            go_simp
            refine hK (.slice (some ⟨w2.heap.size, 0, none⟩) 0 0) (updT tag w2.heap.size 3) _ (w2.alloc (.cells #[] 3)) rfl (hI.alloc _) (Hold.new tag 3 w2 _ #[] [] rfl hz) ?_
            · intro k ok hok hk hp hc hF
              rcases lt20 (Array.getElem?_eq_some_iff.1 hok).1 with rfl | rfl | rfl | rfl | rfl | rfl | rfl | rfl | rfl | rfl | rfl | rfl | rfl | rfl | rfl | rfl | rfl | rfl | rfl | rfl
              all_goals first | exact Hold.alloc hF _ _ | (obtain ⟨nb, e1, e2, e3⟩ := hF; exact ⟨nb, e1, e2, e3.alloc _ _⟩) | exact hF | exact (hk rfl).elim | exact ((hc _ List.mem_cons_self).1 rfl).elim | exact ((hc _ List.mem_cons_self).2 (by obtain rfl := Option.some.inj hok; decide)).elim | exact (hp (by obtain rfl := Option.some.inj hok; decide)).elim
          · intro y tag w2 _ _ hI hp K hK
            go_simp
            refine hK (.pointer (some ⟨pb, 2, none⟩)) tag _ w2 rfl hI rfl ?_
            · intro k ok hok hk hp hc hF
              rcases lt20 (Array.getElem?_eq_some_iff.1 hok).1 with rfl | rfl | rfl | rfl | rfl | rfl | rfl | rfl | rfl | rfl | rfl | rfl | rfl | rfl | rfl | rfl | rfl | rfl | rfl | rfl
              all_goals first | exact hF | exact (hk rfl).elim | exact ((hc _ List.mem_cons_self).1 rfl).elim | exact ((hc _ List.mem_cons_self).2 (by obtain rfl := Option.some.inj hok; decide)).elim | exact (hp (by obtain rfl := Option.some.inj hok; decide)).elim
          · intro y tag w2 _ _ hI hp K hK
            have h11 : y 11 = .pointer (some ⟨pb, 2, none⟩) := hp 11 (by decide) (fun c hc => by cases hc)
            have c0 : w2.cell? ⟨pb, 2, none⟩ = some (.slice sa ss.length sc) := cell_blk_some ((hI.block pb (blk_lt HB0.out) id).trans HB0.out) rfl
            go_simp
            refine hK (.slice sa ss.length sc) tag _ w2 (by simp [updV, h11]) hI rfl ?_
            · intro k ok hok hk hp hc hF
              rcases lt20 (Array.getElem?_eq_some_iff.1 hok).1 with rfl | rfl | rfl | rfl | rfl | rfl | rfl | rfl | rfl | rfl | rfl | rfl | rfl | rfl | rfl | rfl | rfl | rfl | rfl | rfl
              all_goals first | exact hF | exact (hk rfl).elim | exact ((hc _ List.mem_cons_self).1 rfl).elim | exact ((hc _ List.mem_cons_self).2 (by obtain rfl := Option.some.inj hok; decide)).elim | exact (hp (by obtain rfl := Option.some.inj hok; decide)).elim
          · intro y tag w2 _ _ hI hp K hK
            have h10 : Hold tag 3 w2 wr.heap.size (y 10) [] := hp 10 (by decide) (fun c hc => by simpa [C8] using hc)
            have h12 : y 12 = .slice sa ss.length sc := hp 12 (by decide) (fun c hc => by cases hc)
            have hz : wr.heap.size ≤ w2.heap.size := by have := hI.size; rw [HZ0.out] at this; exact this
            have hm := IM.out; have hs := IS.out
            refine step_append_rows rfl (.tmp 42) (.tmp 44) rfl rfl h10.own h12 (HSR.out.fr hI fun _ _ => id) (by simp; try omega) hz ?_
            intro v w3 ho hf hv
            refine hK v (updT tag w2.heap.size 3) _ w3 rfl (hf.zero (fun g hg => (h10.own.lt g hg).1) hI (by rw [HZ0.out]; exact Nat.le_refl _)) (h10.grow ho hv) ?_
            · intro k ok hok hk hp hc hF
              rcases lt20 (Array.getElem?_eq_some_iff.1 hok).1 with rfl | rfl | rfl | rfl | rfl | rfl | rfl | rfl | rfl | rfl | rfl | rfl | rfl | rfl | rfl | rfl | rfl | rfl | rfl | rfl
              all_goals first | exact Hold.other hF h10 hf (by decide) | (obtain ⟨nb, e1, e2, e3⟩ := hF; exact ⟨nb, e1, e2, e3.other h10 hf (by decide)⟩) | exact hF | exact (hk rfl).elim | exact ((hc _ List.mem_cons_self).1 rfl).elim | exact ((hc _ List.mem_cons_self).2 (by obtain rfl := Option.some.inj hok; decide)).elim | exact (hp (by obtain rfl := Option.some.inj hok; decide)).elim
          · intro y tag w2 _ _ hI hp K hK
            go_simp
            refine hK (.int .i64 i) tag _ w2 rfl hI rfl ?_
            · intro k ok hok hk hp hc hF
              rcases lt20 (Array.getElem?_eq_some_iff.1 hok).1 with rfl | rfl | rfl | rfl | rfl | rfl | rfl | rfl | rfl | rfl | rfl | rfl | rfl | rfl | rfl | rfl | rfl | rfl | rfl | rfl
              all_goals first | exact hF | exact (hk rfl).elim | exact ((hc _ List.mem_cons_self).1 rfl).elim | exact ((hc _ List.mem_cons_self).2 (by obtain rfl := Option.some.inj hok; decide)).elim | exact (hp (by obtain rfl := Option.some.inj hok; decide)).elim
          · intro y tag w2 _ _ hI hp K hK
            have h14 : y 14 = .int .i64 i := hp 14 (by decide) (fun c hc => by cases hc)
            have hz : wr.heap.size ≤ w2.heap.size := by have := hI.size; rw [HZ0.out] at this; exact this
            go_simp
            refine hK (.slice (some ⟨w2.heap.size, 0, none⟩) 1 1) (updT tag w2.heap.size 4) _ (w2.alloc (.cells #[.int .i64 i] 3)) (by simp [updV, h14]) (hI.alloc _) (Hold.new tag 4 w2 _ #[.int .i64 i] [(i : Int)] rfl hz) ?_
            · intro k ok hok hk hp hc hF
              rcases lt20 (Array.getElem?_eq_some_iff.1 hok).1 with rfl | rfl | rfl | rfl | rfl | rfl | rfl | rfl | rfl | rfl | rfl | rfl | rfl | rfl | rfl | rfl | rfl | rfl | rfl | rfl
              all_goals first | exact Hold.alloc hF _ _ | (obtain ⟨nb, e1, e2, e3⟩ := hF; exact ⟨nb, e1, e2, e3.alloc _ _⟩) | exact hF | exact (hk rfl).elim | exact ((hc _ List.mem_cons_self).1 rfl).elim | exact ((hc _ List.mem_cons_self).2 (by obtain rfl := Option.some.inj hok; decide)).elim | exact (hp (by obtain rfl := Option.some.inj hok; decide)).elim
          · intro y tag w2 _ _ hI hp K hK
            have h13 : Hold tag 3 w2 wr.heap.size (y 13) ss := hp 13 (by decide) (fun c hc => by simpa [C8] using hc)
            have h15 : Hold tag 4 w2 wr.heap.size (y 15) [(i : Int)] := hp 15 (by decide) (fun c hc => by simpa [C8] using hc)
            have hz : wr.heap.size ≤ w2.heap.size := by have := hI.size; rw [HZ0.out] at this; exact this
            have hm := IM.out; have hs := IS.out
            refine step_append_rows rfl (.tmp 45) (.tmp 47) rfl rfl h13.own rfl h15.own.row (by simp; try omega) hz ?_
            intro v w3 ho hf hv
            refine hK v (updT tag w2.heap.size 3) _ w3 rfl (hf.zero (fun g hg => (h13.own.lt g hg).1) hI (by rw [HZ0.out]; exact Nat.le_refl _)) (h13.grow ho hv) ?_
            · intro k ok hok hk hp hc hF
              rcases lt20 (Array.getElem?_eq_some_iff.1 hok).1 with rfl | rfl | rfl | rfl | rfl | rfl | rfl | rfl | rfl | rfl | rfl | rfl | rfl | rfl | rfl | rfl | rfl | rfl | rfl | rfl
              all_goals first | exact Hold.other hF h13 hf (by decide) | (obtain ⟨nb, e1, e2, e3⟩ := hF; exact ⟨nb, e1, e2, e3.other h13 hf (by decide)⟩) | exact hF | exact (hk rfl).elim | exact ((hc _ List.mem_cons_self).1 rfl).elim | exact ((hc _ List.mem_cons_self).2 (by obtain rfl := Option.some.inj hok; decide)).elim | exact (hp (by obtain rfl := Option.some.inj hok; decide)).elim
          · intro y tag w2 _ _ hI hp K hK
            have h1 : y 1 = .int .i64 root := hp 1 (by decide) (fun c hc => by cases hc)
            have h9 : Hold tag 1 w2 wr.heap.size (y 9) (ms ++ [-f - (k : Int)]) := hp 9 (by decide) (fun c hc => by cases hc)
            have h16 : Hold tag 3 w2 wr.heap.size (y 16) (ss ++ [(i : Int)]) := hp 16 (by decide) (fun c hc => by cases hc)
            obtain ⟨a9, c9, e9⟩ : ∃ a c, y 9 = .slice a (ms ++ [-f - (k : Int)]).length c := h9.own.shape
            obtain ⟨a16, c16, e16⟩ : ∃ a c, y 16 = .slice a (ss ++ [(i : Int)]).length c := h16.own.shape
            rw [List.length_append, List.length_singleton] at e9 e16
            go_simp
            refine hK (.agg #[.int .i64 root, y 9, y 16]) tag _ w2 (by simp [updV, h1, e9, e16]) hI rfl ?_
            · intro k ok hok hk hp hc hF
              rcases lt20 (Array.getElem?_eq_some_iff.1 hok).1 with rfl | rfl | rfl | rfl | rfl | rfl | rfl | rfl | rfl | rfl | rfl | rfl | rfl | rfl | rfl | rfl | rfl | rfl | rfl | rfl
              all_goals first | exact hF | exact (hk rfl).elim | exact ((hc _ List.mem_cons_self).1 rfl).elim | exact ((hc _ List.mem_cons_self).2 (by obtain rfl := Option.some.inj hok; decide)).elim | exact (hp (by obtain rfl := Option.some.inj hok; decide)).elim
          · intro y tag w2 _ _ hI hp K hK
            have hz : wr.heap.size ≤ w2.heap.size := by have := hI.size; rw [HZ0.out] at this; exact this
            go_simp
            refine hK (.pointer (some ⟨w2.heap.size, 0, none⟩)) (updT tag w2.heap.size 5) _ _ rfl (hI.alloc _) ⟨_, rfl, hz, blk_new rfl, updT_self⟩ ?_
            · intro k ok hok hk hp hc hF
              rcases lt20 (Array.getElem?_eq_some_iff.1 hok).1 with rfl | rfl | rfl | rfl | rfl | rfl | rfl | rfl | rfl | rfl | rfl | rfl | rfl | rfl | rfl | rfl | rfl | rfl | rfl | rfl
              all_goals first | exact Hold.alloc hF _ _ | (obtain ⟨nb, e1, e2, e3⟩ := hF; exact ⟨nb, e1, e2, e3.alloc _ _⟩) | exact hF | exact (hk rfl).elim | exact ((hc _ List.mem_cons_self).1 rfl).elim | exact ((hc _ List.mem_cons_self).2 (by obtain rfl := Option.some.inj hok; decide)).elim | exact (hp (by obtain rfl := Option.some.inj hok; decide)).elim
          · intro y tag w2 _ _ hI hp K hK
            obtain ⟨nb, h18, hnz, hnb⟩ : ∃ nb, y 18 = .pointer (some ⟨nb, 0, none⟩) ∧ wr.heap.size ≤ nb ∧ Blk tag 5 w2 nb (.cells #[.int .i64 0, .slice none 0 0, .slice none 0 0] 32 (0, 0)) := hp 18 (by decide) (fun c hc => by simpa [C8] using hc)
            have h17 : y 17 = .agg #[.int .i64 root, y 9, y 16] := hp 17 (by decide) (fun c hc => by cases hc)
            have h9 : Hold tag 1 w2 wr.heap.size (y 9) (ms ++ [-f - (k : Int)]) := hp 9 (by decide) (fun c hc => by cases hc)
            have h16 : Hold tag 3 w2 wr.heap.size (y 16) (ss ++ [(i : Int)]) := hp 16 (by decide) (fun c hc => by cases hc)
            obtain ⟨a9, c9, e9⟩ : ∃ a c, y 9 = .slice a (ms ++ [-f - (k : Int)]).length c := h9.own.shape
            obtain ⟨a16, c16, e16⟩ : ∃ a c, y 16 = .slice a (ss ++ [(i : Int)]).length c := h16.own.shape
            rw [List.length_append, List.length_singleton] at e9 e16
            have c0 : w2.cell? ⟨nb, 0, none⟩ = some (.int .i64 0) := cell_blk_some hnb.blk rfl
            have c1 : w2.cell? ⟨nb, 1, none⟩ = some (.slice none 0 0) := cell_blk_some hnb.blk rfl
            have c2 : w2.cell? ⟨nb, 2, none⟩ = some (.slice none 0 0) := cell_blk_some hnb.blk rfl
            have f0 := free_blk (i := 0) hnb.blk
            have f1 := free_blk (i := 1) hnb.blk
            have f2 := free_blk (i := 2) hnb.blk
            go_simp
            have hE : Ext (fun g => g = nb) tag w2 tag (((w2.setCell ⟨nb, 0, none⟩ (.int .i64 root)).setCell ⟨nb, 1, none⟩ (y 9)).setCell ⟨nb, 2, none⟩ (y 16)) := ⟨(((Fr.refl (fun g => g = nb) w2).setCell ⟨nb, 0, none⟩ rfl _).setCell ⟨nb, 1, none⟩ rfl _).setCell ⟨nb, 2, none⟩ rfl _, fun _ _ => rfl⟩
            have hB := blk_set (i := 2) (blk_set (i := 1) (blk_set (i := 0) hnb.blk (.int .i64 root)) (y 9)) (y 16)
            rw [← e9, ← e16]
            refine hK undef tag _ _ (by simp [updV, h18, h17, e9, e16]) (hE.fr.zero (fun g hg => by rw [show g = nb from hg]; exact hnz) hI (by rw [HZ0.out]; exact Nat.le_refl _)) ⟨nb, h18, hnz, hB, hnb.tg⟩ ?_
            · intro k ok hok hk hp hc hF
              rcases lt20 (Array.getElem?_eq_some_iff.1 hok).1 with rfl | rfl | rfl | rfl | rfl | rfl | rfl | rfl | rfl | rfl | rfl | rfl | rfl | rfl | rfl | rfl | rfl | rfl | rfl | rfl
              all_goals first | exact Hold.ext hF hE (fun g hg => by rw [show g = nb from hg, hnb.tg]; decide) | exact hF | exact (hk rfl).elim | exact ((hc _ List.mem_cons_self).1 rfl).elim | exact ((hc _ List.mem_cons_self).2 (by obtain rfl := Option.some.inj hok; decide)).elim | exact (hp (by obtain rfl := Option.some.inj hok; decide)).elim
          intro y tag w2 _ _ hI hF
          have h9 : Hold tag 1 w2 wr.heap.size (y 9) (ms ++ [-f - (k : Int)]) := hF 9 (by decide) rfl
          have h16 : Hold tag 3 w2 wr.heap.size (y 16) (ss ++ [(i : Int)]) := hF 16 (by decide) rfl
          obtain ⟨nb, h18, hnz, hnb⟩ : ∃ nb, y 18 = .pointer (some ⟨nb, 0, none⟩) ∧ wr.heap.size ≤ nb ∧ Blk tag 5 w2 nb (.cells #[.int .i64 root, y 9, y 16] 32 (0, 0)) := hF 19 (by decide) rfl
          clear hF
          have hwr : Below wr.heap.size wr w2.drew := ((Fr.refl (fun _ => False) wr).drew.trans (by rw [← hw0]; exact hI)).drew.toBelow (Nat.le_refl _) fun _ h => h.elim
          have hnb' := hnb.blk
          have hS2 := HS.out.below hwr
          have r9 := h9.own.row; have r16 := h16.own.row
          obtain ⟨ma9, mc9, e9⟩ := r9.shape
          obtain ⟨sa16, sc16, e16⟩ := r16.shape
          rw [List.length_append, List.length_singleton] at e9 e16
          dsimp only
          rw [h18, e9, e16]
          rw [e9] at hnb' r9
          rw [e16] at hnb' r16
          clear h18 e9 e16 hw0 HB0 HQ0 HZ0 HMR HSR hI
          clear h9 h16 hnb
          have hq := wideN_bd k
          have hq4 : (i : Int) * wideN k ≤ 15 * 4096 := Int.mul_le_mul (by omega) hq.2 (by omega) (by omega)
          have hq0 : 0 ≤ (i : Int) * wideN k := Int.mul_nonneg (by omega) (by omega)
          have hf0 := I0.out; have hf6 := I4.out; have hk3 := I3.out; have hms := IM.out; have hss := IS.out; have hBw := IL.out
          have hsz : w.heap.size ≤ w2.drew.heap.size := hS2.bel.size
          have hBel := IH.out (by omega) (f + i * wideN k) root (ms ++ [-f - (k : Int)]) (ss ++ [(i : Int)]) (.slice ma9 (ms.length + 1) mc9) (.slice sa16 (ss.length + 1) sc16) w2.drew B (by omega) (by rw [List.length_append, List.length_singleton]; omega) (by rw [List.length_append, List.length_singleton]; omega)
            ((r9.mono (Nat.le_trans (Nat.le_trans hBw HS.out.bel.size) (Nat.le_refl _)))) ((r16.mono (Nat.le_trans hBw HS.out.bel.size))) (by omega)
          have hmul : IntKind.i64.wrap ((i : Int) * wideN k) = (i : Int) * wideN k := IntWalk.i64_in _ (by omega)
          have hadd : IntKind.i64.wrap (f + (i : Int) * wideN k) = f + (i : Int) * wideN k := IntWalk.i64_in _ (by omega)
          have hsub : IntKind.i64.wrap (k : Int) = (k : Int) := IntWalk.i64_in _ (by omega)
          have hW := Lib.hid (fun w => rwidth_any k (by omega) w)
          have HBEL := Lib.hid hBel; have HS2 := Lib.hid hS2
          have c0 : w2.cell? ⟨nb, 0, none⟩ = some (.int .i64 root) := cell_blk_some hnb' rfl
          have c1 : w2.cell? ⟨nb, 1, none⟩ = some (.slice ma9 (ms.length + 1) mc9) := cell_blk_some hnb' rfl
          have c2 : w2.cell? ⟨nb, 2, none⟩ = some (.slice sa16 (ss.length + 1) sc16) := cell_blk_some hnb' rfl
          clear hBel hS2 r9 r16 hnb' hwr hq4 hq0 hf0 hf6 hms hss hBw hsz hq hk3
          obtain ⟨L1, hown1, hm1⟩ := HS2.out.out
          have HO1 := Lib.hid hown1; have HM1 := Lib.hid hm1
          have hlen1 : L1.length ≤ 1 + 16 * 273 := by
            have h1 := hm1.1
            have h2 := kidsB_le k f root ms ss i (by omega)
            have h3 := capB_le (k := k) (by have := I3.out; omega)
            rw [List.length_cons] at h1
            have : 16 * capB k ≤ 16 * 273 := Nat.mul_le_mul_left _ h3
            omega
          clear hown1 hm1
          go_wp2_with fail
          go_region_law
            (first
              | (go_simp; go_at_call 80; refine (hW.out _).mono ?_; rintro e w' ⟨rfl, rfl⟩)
              | (go_simp; go_at_call 54; (with_reducible refine HBEL.out.mono ?_)
                 rintro e w5 ⟨v5, rfl, ⟨L5, hown5, hms5⟩, hb5⟩
                 have HO5 := Lib.hid hown5; have HM5 := Lib.hid hms5; have HB5 := Lib.hid hb5
                 have HL5 : Hid (L5.length ≤ 273) := Lib.hid (by
                   have h1 := hms5.1
                   have h2 := belowN_le k (f + i * wideN k) root (ms ++ [-f - (k : Int)]) (ss ++ [(i : Int)])
                   have h3 := capB_le (k := k) (by have := I3.out; omega)
                   omega)
                 clear hown5 hms5 hb5)
              | (refine step_append_g (by rfl) (.tmp 50) (.tmp 61) (by rfl) elMeta (by rfl) (own_frame HO1.out (S := fun _ => False) (Fr.below HB5.out) (fun _ _ => id)) (by rfl) (SrcG.of_own HO5.out HM5.out.one) (by unfold maxLen; have := HL5.out; omega) (by have := HL5.out; omega) (by have := HB5.out.size; have := (HS2.out.below HB5.out).pq; have := blk_lt (HS2.out.below HB5.out).mbox; omega) ?_
                 intro v6 w6 ho6 hf6 _
                 have HS6 := Lib.hid ((HS2.out.below HB5.out).push (own_frame HO1.out (S := fun _ => False) (Fr.below HB5.out) (fun _ _ => id)) (HM1.out.below HB5.out) HM5.out ho6 hf6)
                 clear ho6 hf6
                 dsimp only))
          all_goals
            clear c0 c1 c2 hW HBEL hmul hadd hsub HS2 HO1 HM1 HO5 HM5 HB5 HL5 hlen1
            go_wp2_with fail
            go_roundw
            case rel => exact ⟨i + 1, by omega, by go_num, by rw [kidsB_succ]; exact HS6.out⟩
            case measure => simp only [RowKit.intOf]; omega
        · obtain rfl : i = 16 := by omega
          have hS := HS.out
          have RES : Hid (MetasAt wr w.heap.size B u8 (⟨-f - k, k + 1, f, root, ms, ss⟩ :: kidsB k f root ms ss 16) ∧ Below w.heap.size w wr) := Lib.hid ⟨hS.out.mono (by have := hS.pq; have := hS.lo; omega), hS.bel⟩
          clear hS HS
          go_wp2_with fail
          go_ret
          exact ⟨_, rfl, RES.out⟩
end Go.Proofs.YtklamgijikcnaaaDoor
