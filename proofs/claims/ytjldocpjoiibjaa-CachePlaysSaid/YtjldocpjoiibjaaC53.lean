/- Walk of marlref09.used. -/
/- Walks of marlref09.New, Put and Get. (Printed by tools/mkref.py.) -/
import Derived.Test.YtjldocpjoiibjaaC51
import Derived.Deep.DeepCutAuto
import Derived.Deep.RegionHeld3
namespace Go.Proofs.Ytjldocpjoiibjaa
open Go.RowKit

theorem own_newB (w : World) {B : Nat} (hB : B ≤ w.heap.size) : (w.alloc (.cells #[] 86)).ownsRow B 86 5 (.slice (some ⟨w.heap.size, 0, none⟩) 0 0) 0 [] :=
  ⟨rfl, .inr ⟨w.heap.size, 0, #[], rfl, hB, blk_new rfl, Nat.le_refl _, by decide, rfl, rfl⟩⟩
theorem own_newB2 (w : World) (X : Obj) : ((w.alloc X).alloc (.cells #[] 86)).ownsRow w.heap.size 86 5 (.slice (some ⟨w.heap.size + 1, 0, none⟩) 0 0) 0 [] :=
  ⟨rfl, .inr ⟨w.heap.size + 1, 0, #[], rfl, by omega, blk_new (by simp), Nat.le_refl _, by decide, rfl, rfl⟩⟩
def rowX (b : Pb) : Obj := .cells #[.int .i64 b.k.1, .int .i64 b.k.2, .string (strD b.data), .bool b.dirty, .int .i64 b.pins] 86 (0, 0)
theorem cells_X {w : World} {g : Nat} {b : Pb} (h : w.heap[g]? = some (rowX b)) : ∀ (j : Nat) u, (flatB [b])[j]? = some u → w.cell? ((⟨g, 0, none⟩ : Addr).add j) = some u := fun j u hj => by
  have hadd : (⟨g, 0, none⟩ : Addr).add j = ⟨g, j, none⟩ := by unfold Addr.add; split <;> simp_all
  rw [hadd]
  exact cell_blk_some h (by simpa [flatB, cellsB] using hj)
theorem RefAt.src {w : World} {a : Option Addr} {n c : Nat} {P : List Pb} (h : RefAt w (.slice a n c) P) : n = P.length ∧ ((P = [] ∧ a = none) ∨ ∃ ad, a = some ad ∧ (∀ w', Fr (fun x => w.heap.size ≤ x) w w' → ∀ (j : Nat) u, (flatB P)[j]? = some u → w'.cell? (ad.add j) = some u)) := by
  obtain ⟨a', c', he, _, hrow⟩ := h
  obtain ⟨rfl, rfl, rfl⟩ := Value.slice.inj he
  refine ⟨rfl, ?_⟩
  rcases Nat.eq_zero_or_pos P.length with h0 | h0
  · obtain rfl := List.eq_nil_of_length_eq_zero h0
    cases a with
    | none => exact .inl ⟨rfl, rfl⟩
    | some ad => exact .inr ⟨ad, rfl, fun w' _ j u hj => by simp [flatB] at hj⟩
  · obtain ⟨g, rfl, hg⟩ := hrow h0
    refine .inr ⟨_, rfl, fun w' hf j u hj => ?_⟩
    have hadd : (⟨g, 0, none⟩ : Addr).add j = ⟨g, j, none⟩ := by unfold Addr.add; split <;> simp_all
    rw [hadd, World.cell?_of_block (w := w) (a := ⟨g, j, none⟩) (hf.block g hg.lt (by have := hg.lt; omega))]
    exact hg.cells j u hj

theorem RefAt.off {w w' : World} {v : Value} {P : List Pb} {cb : Nat} (h : RefAt w v P) (hc : w.cell? ⟨cb, 2, none⟩ = none) (hf : Fr (fun x => x = cb) w w') : RefAt w' v P := by
  obtain ⟨a, c, rfl, h1, h2⟩ := h
  refine ⟨a, c, rfl, h1, fun h0 => ?_⟩
  obtain ⟨g, h3, h4⟩ := h2 h0
  refine ⟨g, h3, h4.same (hf.block g h4.lt fun e => ?_) hf.size⟩
  have h5 := h4.c2 0 P[0] (List.getElem?_eq_getElem h0)
  rw [show g = cb from e, show 0 * 5 + 2 = 2 by omega, hc] at h5
  cases h5
theorem fr_own {B n sz : Nat} {wd w w' : World} {v : Value} {xs : List Value} {e : TypeId} (hf : Fr (fun y => B ≤ y) wd w) (ho : w.ownsRow B e sz v n xs) (hg : w.grownBy w' v.ownBlock) : Fr (fun y => B ≤ y) wd w' :=
  hf.trans ⟨hg.os, hg.tape, hg.output, hg.size, fun y hy hn => hg.block y hy fun e => hn (ho.lt y e.symm).1⟩
theorem take_mid (A B : List Pb) (b : Pb) : (A ++ b :: B).take A.length ++ (A ++ b :: B).drop (A.length + 1) = A ++ B := by
  rw [List.take_left', List.drop_append]
  · simp
  · rfl
set_option maxHeartbeats 4000000 in
set_option maxRecDepth 100000 in
/-- R: the cache's buffers without the one of x's key. -/
theorem used_any {w : World} {v : Value} {P R : List Pb} {x : Pb} {room : Int} (h : RefAt w v P) (hl : P.length ≤ 100000)
    (hr : ((∀ b ∈ P, b.k ≠ x.k) ∧ R = P) ∨ ∃ A b B, P = A ++ b :: B ∧ b.k = x.k ∧ R = A ++ B ∧ (P.map (·.k)).Nodup) :
    Calls Try.prog 41 #[refV room v, valB x] w fun e w' => ∃ v', e = .returned (refV room v') ∧ RefAt w' v' (R ++ [x]) ∧ Below w.heap.size w w' := by
  obtain ⟨i0, hi, hz0, hz1, hz2⟩ := info_parts infoBuf
  have hfd : ∃ r : Int, ((r = -1 ∧ R = P) ∨ ∃ n : Nat, r = n ∧ n < P.length ∧ R = P.take n ++ P.drop (n + 1)) ∧ ∀ w, RefAt w v P → Calls Try.prog 40 #[refV room v, keyV x.k] w fun e w' => e = .returned (.int .i64 r) ∧ Below w.heap.size w w' := by
    rcases hr with ⟨hn, rfl⟩ | ⟨A, b, B, rfl, hk, rfl, hnd⟩
    · exact ⟨-1, .inl ⟨rfl, rfl⟩, fun w h => find_miss h hl hn⟩
    · refine ⟨A.length, .inr ⟨A.length, rfl, by simp, (take_mid A B b).symm⟩, fun w h => ?_⟩
      rw [← hk]
      exact find_hit h hl hnd
  obtain ⟨r, hR, hfd⟩ := hfd
  have HFD := Lib.hid hfd
  have hsh : ∃ a c, v = .slice a P.length c := by obtain ⟨a, c, he, _⟩ := h; exact ⟨a, c, he⟩
  obtain ⟨a, c, rfl⟩ := hsh
  have H := Lib.hid h
  clear h hfd hr
  obtain ⟨⟨x1, x2⟩, xd, xy, xp⟩ := x
  unfold refV valB
  unfold refV keyV at HFD
  go_enter Try.func41, Try.ntmps41
  go_wp2_with fail
  obtain ⟨w1, hw1⟩ : ∃ w1, w1 = ((w.alloc (.cells #[.int .i64 room, .slice a P.length c] 52)).alloc (.cells #[.int .i64 x1, .int .i64 x2, .string (strD xd), .bool xy, .int .i64 xp] 86)).alloc (.cells #[.int .i64 0, .slice none 0 0] 52) := ⟨_, rfl⟩
  have bc : w1.heap[w.heap.size]? = some (.cells #[.int .i64 room, .slice a P.length c] 52 (0, 0)) := by rw [hw1]; exact blk_old (blk_old (blk_new rfl))
  have bx : w1.heap[w.heap.size + 1]? = some (.cells #[.int .i64 x1, .int .i64 x2, .string (strD xd), .bool xy, .int .i64 xp] 86 (0, 0)) := by rw [hw1]; exact blk_old (blk_new (by simp))
  have br : w1.heap[w.heap.size + 1 + 1]? = some (.cells #[.int .i64 0, .slice none 0 0] 52 (0, 0)) := by rw [hw1]; exact blk_new (by simp)
  have hb1 : Below w.heap.size w w1 := by rw [hw1]; exact below_alloc (below_alloc (below_alloc (Below.refl _ w) (Nat.le_refl _) _) (Nat.le_refl _) _) (Nat.le_refl _) _
  rw [← hw1]
  clear hw1
  have hd1 : w.heap.size ≠ w.heap.size + 1 := by omega
  have hd2 : w.heap.size ≠ w.heap.size + 1 + 1 := by omega
  have hl1 : w.heap.size ≤ w.heap.size + 1 := by omega
  have hl2 : w.heap.size ≤ w.heap.size + 1 + 1 := by omega
  have hl0 : w.heap.size ≤ w.heap.size := Nat.le_refl _
  generalize w.heap.size + 1 + 1 = rb at br hd2 hl2 ⊢
  generalize w.heap.size + 1 = xb at bx hd1 hl1 ⊢
  generalize hcb : w.heap.size = cb at bc hb1 hd1 hd2 hl1 hl2 ⊢
  have H1 := Lib.hid (H.out.below (by rw [hcb]; exact hb1))
  have HCB := Lib.hid hcb
  clear hcb hl0
  refine (HFD.out _ H1.out).mono ?_
  rintro e w2 ⟨rfl, hb2⟩
  have bc2 := blk_below hb2 (blk_lt bc) bc
  have bx2 := blk_below hb2 (blk_lt bx) bx
  have br2 := blk_below hb2 (blk_lt br) br
  have H2 := Lib.hid (H1.out.below hb2)
  have FB2 := Lib.hid (hb1.trans (hb2.mono (by have h1 := hb1.size; have h2 := HCB.out; omega)))
  clear bc bx br hb1 hb2 HFD H H1
  have BC2 := Lib.hid bc2; have BX2 := Lib.hid bx2; have BR2 := Lib.hid br2
  clear bc2 bx2 br2
  go_upto_if 11 with fail
  go_cut [] (fun wx => ∃ a' c', wx.heap[cb]? = some (.cells #[.int .i64 room, .slice a' R.length c'] 52 (0, 0)) ∧ RefAt wx (.slice a' R.length c') R ∧
    wx.heap[xb]? = some (.cells #[.int .i64 x1, .int .i64 x2, .string (strD xd), .bool xy, .int .i64 xp] 86 (0, 0)) ∧ wx.heap[rb]? = some (.cells #[.int .i64 0, .slice none 0 0] 52 (0, 0)) ∧ Below cb w wx)
  case first =>
    rcases hR with ⟨rfl, rfl⟩ | ⟨n, rfl, hn, hRe⟩
    · go_wp2_with fail
      go_meet
      case rel => exact ⟨a, c, BC2.out, H2.out, BX2.out, BR2.out, FB2.out⟩
    · have q1 : decide ((0 : Int) ≤ (n : Int)) = true := decide_eq_true (by omega)
      have HW := Lib.hid (without_any (room := room) H2.out hn hl)
      have k0 : w2.cell? ⟨cb, 0, none⟩ = some (.int .i64 room) := cell_blk_some BC2.out rfl
      have k1 : w2.cell? ⟨cb, 1, none⟩ = some (.slice a P.length c) := cell_blk_some BC2.out rfl
      unfold refV at HW
      go_wp2_with fail
      refine HW.out.mono ?_
      rintro e w3 ⟨v3, rfl, h3, hb3⟩
      rw [← hRe] at h3
      have hsh : ∃ a' c', v3 = .slice a' R.length c' := by obtain ⟨a', c', he, _⟩ := h3; exact ⟨a', c', he⟩
      obtain ⟨a', c', rfl⟩ := hsh
      have bc3 := blk_below hb3 (blk_lt BC2.out) BC2.out
      have bx3 := blk_below hb3 (blk_lt BX2.out) BX2.out
      have br3 := blk_below hb3 (blk_lt BR2.out) BR2.out
      have l0 : w3.cell? ⟨cb, 0, none⟩ = some (.int .i64 room) := cell_blk_some bc3 rfl
      have l1 : w3.cell? ⟨cb, 1, none⟩ = some (.slice a P.length c) := cell_blk_some bc3 rfl
      have z0 := free_blk (i := 0) bc3
      have z1 := free_blk (i := 1) bc3
      have hf : Fr (fun y => y = cb) w3 ((w3.setCell ⟨cb, 0, none⟩ (.int .i64 room)).setCell ⟨cb, 1, none⟩ (.slice a' R.length c')) := ((Fr.refl (fun y => y = cb) w3).setCell ⟨cb, 0, none⟩ rfl _).setCell ⟨cb, 1, none⟩ rfl _
      have bc4 := blk_set (i := 1) (blk_set (i := 0) bc3 (.int .i64 room)) (.slice a' R.length c')
      have hc2 : w3.cell? ⟨cb, 2, none⟩ = none := by rw [cell_blk bc3]; rfl
      have h4 := h3.off hc2 hf
      have bx4 := (hf.block xb (blk_lt bx3) (Ne.symm hd1)).trans bx3
      have br4 := (hf.block rb (blk_lt br3) (Ne.symm hd2)).trans br3
      have hb4 : Below cb w ((w3.setCell ⟨cb, 0, none⟩ (.int .i64 room)).setCell ⟨cb, 1, none⟩ (.slice a' R.length c')) := (FB2.out.trans (hb3.mono (by have h1 := FB2.out.size; have h2 := HCB.out; omega))).trans (hf.toBelow (B := cb) (by have h1 := FB2.out.size; have h2 := HCB.out; have h3 := hb3.size; omega) fun y hy => by rw [show y = cb from hy]; exact Nat.le_refl _)
      have E1 := Lib.hid bc4; have E2 := Lib.hid h4; have E3 := Lib.hid bx4; have E4 := Lib.hid br4; have E5 := Lib.hid hb4
      clear bc3 bx3 br3 hf bc4 hc2 h4 bx4 br4 hb4 h3 hb3 HW k0 k1 hRe
      go_wp2_with fail
      go_meet
      case rel => exact ⟨a', c', E1.out, E2.out, E3.out, E4.out, E5.out⟩
  case rest =>
    obtain ⟨a', c', bc, hR2, bx, br, hbw⟩ := hcut
    have hRl : R.length ≤ 100000 := by
      rcases hR with ⟨_, rfl⟩ | ⟨n, _, _, rfl⟩
      · exact hl
      · rw [List.length_append, List.length_take, List.length_drop]; omega
    clear H2 BC2 BX2 BR2 FB2 hR
    go_upto_region 4 with fail
    have kD : wc.drew.cell? ⟨cb, 1, none⟩ = some (.slice a' R.length c') := cell_blk_some bc rfl
    have bcD : wc.drew.heap[cb]? = some (.cells #[.int .i64 room, .slice a' R.length c'] 52 (0, 0)) := bc
    have bxD : wc.drew.heap[xb]? = some (.cells #[.int .i64 x1, .int .i64 x2, .string (strD xd), .bool xy, .int .i64 xp] 86 (0, 0)) := bx
    have brD : wc.drew.heap[rb]? = some (.cells #[.int .i64 0, .slice none 0 0] 52 (0, 0)) := br
    have hRD : RefAt wc.drew (.slice a' R.length c') R := hR2.below ⟨rfl, rfl, rfl, Nat.le_refl _, fun _ _ => rfl⟩
    have hbD : Below cb w wc.drew := ⟨hbw.os, hbw.tape, hbw.output, hbw.size, hbw.block⟩
    clear bc hR2 bx br hbw
    generalize hwd : wc.drew = wd at kD bcD bxD brD hRD hbD
    have cbl := blk_lt bcD
    have xbl := blk_lt bxD
    have rbl := blk_lt brD
    have kA : ∀ o, (wd.alloc o).cell? ⟨cb, 1, none⟩ = some (.slice a' R.length c') := fun o => cell_blk_some (blk_old bcD) rfl
    have xF : ∀ w', Fr (fun y => wd.heap.size ≤ y) wd w' → w'.cell? ⟨cb, 1, none⟩ = some (.slice a' R.length c') ∧ w'.frozen? ⟨cb, 1, none⟩ = false ∧ w'.cell? ⟨xb, 0, none⟩ = some (.int .i64 x1) ∧ w'.cell? ⟨xb, 1, none⟩ = some (.int .i64 x2) ∧ w'.cell? ⟨xb, 2, none⟩ = some (.string (strD xd)) ∧ w'.cell? ⟨xb, 3, none⟩ = some (.bool xy) ∧ w'.cell? ⟨xb, 4, none⟩ = some (.int .i64 xp) := fun w' hf => by
      have b1 := (hf.block cb cbl (by omega)).trans bcD
      have b2 := (hf.block xb xbl (by omega)).trans bxD
      exact ⟨cell_blk_some b1 rfl, free_blk b1, cell_blk_some b2 rfl, cell_blk_some b2 rfl, cell_blk_some b2 rfl, cell_blk_some b2 rfl, cell_blk_some b2 rfl⟩
    have x0 := xF wd (Fr.refl _ _)
    have xA := fun o => xF (wd.alloc o) ((Fr.refl _ wd).alloc o)
    have xA2 := fun o o' => xF ((wd.alloc o).alloc o') (((Fr.refl _ wd).alloc o).alloc o')
    have XF := Lib.hid xF; have BCD := Lib.hid bcD; have BRD := Lib.hid brD; have HBD := Lib.hid hbD
    have hsrc := hRD.src.2
    have hlR : (flatB R).length = R.length * 5 := flatB_length R
    have HLR := Lib.hid hlR
    clear xF bcD bxD brD hRD hbD hlR kD kA
    rcases hsrc with ⟨hR0, rfl⟩ | ⟨ad, rfl, hcel⟩
    rotate_left
    focus
      have HCEL := Lib.hid hcel
      clear hcel
      first
        | go_region_law
          (first
            | (refine step_append_own rfl (.tmp 15) (.tmp 17) 50 rfl wd.heap.size 86 i0 _ 5 48 Try.underlying50 hi hz0 hz1 hz2 rfl (by decide) _ 0 [] rfl (by first | exact own_newB wd (Nat.le_refl _) | exact (own_newB wd (Nat.le_refl _)).alloc _ | exact own_newB2 wd _) ad R.length c' (flatB R) rfl HLR.out
                 (by first | exact HCEL.out _ ((Fr.refl _ wd).alloc _) | exact HCEL.out _ (((Fr.refl _ wd).alloc _).alloc _)) (flatB_one _) (by unfold maxLen; omega) (by omega) (by simp <;> omega) ?_
               intro v1 w2 hown1 hgr1
               have f2 : Fr (fun y => wd.heap.size ≤ y) wd w2 := by
                 first
                   | exact fr_own ((Fr.refl _ wd).alloc _) (own_newB wd (Nat.le_refl _)) hgr1
                   | exact fr_own (((Fr.refl _ wd).alloc _).alloc _) ((own_newB wd (Nat.le_refl _)).alloc _) hgr1
                   | exact fr_own (((Fr.refl _ wd).alloc _).alloc _) (own_newB2 wd _) hgr1
               first
                 | have hX : w2.heap[wd.heap.size + 1]? = some (rowX ⟨(x1, x2), xd, xy, xp⟩) := (hgr1.block (wd.heap.size + 1) (by simp) (fun e => absurd (Option.some.inj (show some (wd.heap.size + 1) = some wd.heap.size from e)) (by omega))).trans (blk_new (by simp))
                 | have hX : w2.heap[wd.heap.size]? = some (rowX ⟨(x1, x2), xd, xy, xp⟩) := (hgr1.block wd.heap.size (by simp; omega) (fun e => absurd (Option.some.inj (show some wd.heap.size = some (wd.heap.size + 1) from e)) (by omega))).trans (blk_old (blk_new rfl))
                 | skip
               have x2c := XF.out w2 f2
               have O2 := Lib.hid hown1; have F2 := Lib.hid f2
               clear hown1 hgr1 f2
               dsimp only)
            | (refine step_append_own rfl (.tmp 18) (.tmp 20) 50 rfl wd.heap.size 86 i0 _ 5 48 Try.underlying50 hi hz0 hz1 hz2 rfl (by decide) _ _ _ rfl (by first | exact O2.out | exact O2.out.alloc _) _ 1 1 (flatB [(⟨(x1, x2), xd, xy, xp⟩ : Pb)]) rfl rfl
                 (by first | exact cells_X hX | exact cells_X (blk_new rfl) | exact cells_X (blk_old (blk_new rfl)) | exact cells_X (blk_new (by simp))) (flatB_one _) (by unfold maxLen; omega) (by omega) (by first | exact F2.out.size | (have := F2.out.size; simp; omega)) ?_
               intro v2 w3 hown2 hgr2
               obtain ⟨a2, c2, hsh2⟩ := own_shape hown2
               subst hsh2
               have f3 : Fr (fun y => wd.heap.size ≤ y) wd w3 := by
                 first | exact fr_own F2.out O2.out hgr2 | exact fr_own (F2.out.alloc _) (O2.out.alloc _) hgr2
               have x3 := XF.out w3 f3
               have br3 := (f3.block rb rbl (by omega)).trans BRD.out
               have bc3 := (f3.block cb cbl (by omega)).trans BCD.out
               have O3 := Lib.hid hown2; have F3 := Lib.hid f3; have BC3 := Lib.hid bc3; have BR3 := Lib.hid br3
               clear hown2 hgr2 f3 bc3 br3
               dsimp only))
        | fail
      all_goals
        clear x0 xA xA2
        have ho := O3.out
        rw [Nat.zero_add, List.nil_append, ← flatB_append] at ho
        have bc4 := blk_set (i := 1) BC3.out (.slice a2 (R.length + 1) c2)
        have br4 := blk_set_other (a := ⟨cb, 1, none⟩) BR3.out (Ne.symm hd2) (.slice a2 (R.length + 1) c2)
        have hown4 := own_set ho (a := ⟨cb, 1, none⟩) cbl (.slice a2 (R.length + 1) c2)
        have f4 := F3.out.setCellAt ⟨cb, 1, none⟩ (.slice a2 (R.length + 1) c2)
        generalize w3.setCell ⟨cb, 1, none⟩ (.slice a2 (R.length + 1) c2) = w4 at bc4 br4 hown4 f4 ⊢
        have x0 : w4.cell? ⟨cb, 0, none⟩ = some (.int .i64 room) := cell_blk_some bc4 rfl
        have x1 : w4.cell? ⟨cb, 1, none⟩ = some (.slice a2 (R.length + 1) c2) := cell_blk_some bc4 rfl
        have y0 : w4.cell? ⟨rb, 0, none⟩ = some (.int .i64 0) := cell_blk_some br4 rfl
        have y1 : w4.cell? ⟨rb, 1, none⟩ = some (.slice none 0 0) := cell_blk_some br4 rfl
        have z0 := free_blk (i := 0) br4
        have z1 := free_blk (i := 1) br4
        have BR4 := Lib.hid br4; have O4 := Lib.hid hown4; have F4 := Lib.hid f4
        clear bc4 br4 hown4 f4 O3 F3 BC3 BR3 ho XF BRD BCD x3
        go_wp2_with fail
        have br6 := blk_set (i := 1) (blk_set (i := 0) BR4.out (.int .i64 room)) (.slice a2 (R.length + 1) c2)
        refine bodyPost_ret (results_cell_row rfl _ _ rb _ _ _ _ rfl br6 Try.underlying52 rfl (by kernel_rfl)) rfl ?_
        have ho6 := own_set (own_set O4.out (a := ⟨rb, 0, none⟩) rbl (.int .i64 room)) (a := ⟨rb, 1, none⟩) rbl (.slice a2 (R.length + 1) c2)
        refine ⟨_, rfl, (buf_own ho6).1, ?_⟩
        have hcs := HCB.out
        have hfb : Fr (fun x => cb ≤ x) wd w4 := F4.out.mono fun x _ hx => by
          rcases hx with hx | hx
          · omega
          · have : x = cb := hx; omega
        have hfc := (hfb.setCell ⟨rb, 0, none⟩ hl2 (.int .i64 room)).setCell ⟨rb, 1, none⟩ hl2 (.slice a2 (R.length + 1) c2)
        rw [hcs]
        exact HBD.out.trans (hfc.toBelow (by omega) fun _ h => h)
    rotate_right
    focus
      subst hR0
      first
        | go_region_law
          (first
            | (refine step_append_own rfl (.tmp 18) (.tmp 20) 50 rfl wd.heap.size 86 i0 _ 5 48 Try.underlying50 hi hz0 hz1 hz2 rfl (by decide) _ _ _ rfl (by first | exact own_newB wd (Nat.le_refl _) | exact (own_newB wd (Nat.le_refl _)).alloc _ | exact own_newB2 wd _) _ 1 1 (flatB [(⟨(x1, x2), xd, xy, xp⟩ : Pb)]) rfl rfl
                 (by first | exact cells_X hX | exact cells_X (blk_new rfl) | exact cells_X (blk_old (blk_new rfl)) | exact cells_X (blk_new (by simp))) (flatB_one _) (by unfold maxLen; omega) (by omega) (by simp <;> omega) ?_
               intro v2 w3 hown2 hgr2
               obtain ⟨a2, c2, hsh2⟩ := own_shape hown2
               subst hsh2
               have f3 : Fr (fun y => wd.heap.size ≤ y) wd w3 := by
                 first | exact fr_own (((Fr.refl _ wd).alloc _).alloc _) ((own_newB wd (Nat.le_refl _)).alloc _) hgr2 | exact fr_own (((Fr.refl _ wd).alloc _).alloc _) (own_newB2 wd _) hgr2
               have x3 := XF.out w3 f3
               have br3 := (f3.block rb rbl (by omega)).trans BRD.out
               have bc3 := (f3.block cb cbl (by omega)).trans BCD.out
               have O3 := Lib.hid hown2; have F3 := Lib.hid f3; have BC3 := Lib.hid bc3; have BR3 := Lib.hid br3
               clear hown2 hgr2 f3 bc3 br3
               dsimp only))
        | fail
      all_goals
        clear x0 xA xA2
        have ho := O3.out
        rw [List.nil_append] at ho
        have bc4 := blk_set (i := 1) BC3.out (.slice a2 (1) c2)
        have br4 := blk_set_other (a := ⟨cb, 1, none⟩) BR3.out (Ne.symm hd2) (.slice a2 (1) c2)
        have hown4 := own_set ho (a := ⟨cb, 1, none⟩) cbl (.slice a2 (1) c2)
        have f4 := F3.out.setCellAt ⟨cb, 1, none⟩ (.slice a2 (1) c2)
        generalize w3.setCell ⟨cb, 1, none⟩ (.slice a2 (1) c2) = w4 at bc4 br4 hown4 f4 ⊢
        have x0 : w4.cell? ⟨cb, 0, none⟩ = some (.int .i64 room) := cell_blk_some bc4 rfl
        have x1 : w4.cell? ⟨cb, 1, none⟩ = some (.slice a2 (1) c2) := cell_blk_some bc4 rfl
        have y0 : w4.cell? ⟨rb, 0, none⟩ = some (.int .i64 0) := cell_blk_some br4 rfl
        have y1 : w4.cell? ⟨rb, 1, none⟩ = some (.slice none 0 0) := cell_blk_some br4 rfl
        have z0 := free_blk (i := 0) br4
        have z1 := free_blk (i := 1) br4
        have BR4 := Lib.hid br4; have O4 := Lib.hid hown4; have F4 := Lib.hid f4
        clear bc4 br4 hown4 f4 O3 F3 BC3 BR3 ho XF BRD BCD x3
        go_wp2_with fail
        have br6 := blk_set (i := 1) (blk_set (i := 0) BR4.out (.int .i64 room)) (.slice a2 (1) c2)
        refine bodyPost_ret (results_cell_row rfl _ _ rb _ _ _ _ rfl br6 Try.underlying52 rfl (by kernel_rfl)) rfl ?_
        have ho6 := own_set (own_set O4.out (a := ⟨rb, 0, none⟩) rbl (.int .i64 room)) (a := ⟨rb, 1, none⟩) rbl (.slice a2 (1) c2)
        refine ⟨_, rfl, (buf_own ho6).1, ?_⟩
        have hcs := HCB.out
        have hfb : Fr (fun x => cb ≤ x) wd w4 := F4.out.mono fun x _ hx => by
          rcases hx with hx | hx
          · omega
          · have : x = cb := hx; omega
        have hfc := (hfb.setCell ⟨rb, 0, none⟩ hl2 (.int .i64 room)).setCell ⟨rb, 1, none⟩ hl2 (.slice a2 (1) c2)
        rw [hcs]
        exact HBD.out.trans (hfc.toBelow (by omega) fun _ h => h)
end Go.Proofs.Ytjldocpjoiibjaa

namespace Go.Proofs.Ytjldocpjoiibjaa
open Go.RowKit

theorem strD_size (l : List Value) : (strD l).size = l.length := by unfold strD; rw [strOfNums_size, List.length_map]
set_option maxHeartbeats 4000000 in
set_option maxRecDepth 100000 in
theorem refPut_old {w : World} {v : Value} {P A B : List Pb} {b : Pb} {room : Int} {k : Int × Int} {d : List Value} {dy : Bool} (h : RefAt w v P) (hl : P.length ≤ 100000) (hP : P = A ++ b :: B) (hn : (P.map (·.k)).Nodup) (hk : b.k = k) (h64 : d.length = 64) {r : Int} (hr : r = A.length)
    (hfd : ∀ w, RefAt w v P → Calls Try.prog 40 #[refV room v, keyV k] w fun e w' => e = .returned (.int .i64 r) ∧ Below w.heap.size w w') :
    Calls Try.prog 20 #[refV room v, keyV k, .string (strD d), .bool dy] w fun e w' => ∃ v', e = .returned (.tuple #[refV room v', .int .i64 0]) ∧ RefAt w' v' (A ++ B ++ [{ b with data := d, dirty := b.dirty || dy }]) ∧ Below w.heap.size w w' := by
  have hsz : (strD d).size = 64 := by rw [strD_size, h64]
  have HP := Lib.hid hP; have HR := Lib.hid hr; have HN := Lib.hid hn; have HK := Lib.hid hk
  have hip : A.length < P.length := by rw [hP]; simp
  have q0 : decide (r < 0) = false := decide_eq_false (by omega)
  have q1 : decide (0 ≤ r) = true := decide_eq_true (by omega)
  clear hP hr hn hk h64
  have hsh : ∃ a c, v = .slice a P.length c := by obtain ⟨a, c, he, _⟩ := h; exact ⟨a, c, he⟩
  obtain ⟨a, c, rfl⟩ := hsh
  have H := Lib.hid h
  clear h
  obtain ⟨k1, k2⟩ := k
  have HFD := Lib.hid hfd
  clear hfd
  unfold refV keyV
  unfold refV keyV at HFD
  go_enter Try.func20, Try.ntmps20
  go_wp2_with fail
  obtain ⟨w1, hw1⟩ : ∃ w1, w1 = ((w.alloc (.cells #[.int .i64 room, .slice a P.length c] 52)).alloc (.cells #[.int .i64 k1, .int .i64 k2] 55)).alloc (.cells #[.int .i64 0, .slice none 0 0] 52) := ⟨_, rfl⟩
  have bc : w1.heap[w.heap.size]? = some (.cells #[.int .i64 room, .slice a P.length c] 52 (0, 0)) := by rw [hw1]; exact blk_old (blk_old (blk_new rfl))
  have bk : w1.heap[w.heap.size + 1]? = some (.cells #[.int .i64 k1, .int .i64 k2] 55 (0, 0)) := by rw [hw1]; exact blk_old (blk_new (by simp))
  have br : w1.heap[w.heap.size + 1 + 1]? = some (.cells #[.int .i64 0, .slice none 0 0] 52 (0, 0)) := by rw [hw1]; exact blk_new (by simp)
  have hb1 : Below w.heap.size w w1 := by rw [hw1]; exact below_alloc (below_alloc (below_alloc (Below.refl _ w) (Nat.le_refl _) _) (Nat.le_refl _) _) (Nat.le_refl _) _
  rw [← hw1]
  clear hw1
  have hd1 : w.heap.size ≠ w.heap.size + 1 := by omega
  have hd2 : w.heap.size ≠ w.heap.size + 1 + 1 := by omega
  have hd3 : w.heap.size + 1 ≠ w.heap.size + 1 + 1 := by omega
  have hl1 : w.heap.size ≤ w.heap.size + 1 := by omega
  have hl2 : w.heap.size ≤ w.heap.size + 1 + 1 := by omega
  generalize w.heap.size + 1 + 1 = rb at br hd2 hd3 hl2 ⊢
  generalize w.heap.size + 1 = kb at bk hd1 hd3 hl1 ⊢
  generalize hcb : w.heap.size = cb at bc hb1 hd1 hd2 hl1 hl2 ⊢
  have H1 := Lib.hid (H.out.below (by rw [hcb]; exact hb1))
  have HCB := Lib.hid hcb
  clear hcb
  refine (HFD.out _ H1.out).mono ?_
  rintro e w2 ⟨rfl, hb2⟩
  have bc2 := blk_below hb2 (blk_lt bc) bc
  have bk2 := blk_below hb2 (blk_lt bk) bk
  have br2 := blk_below hb2 (blk_lt br) br
  have H2 := Lib.hid (H1.out.below hb2)
  have FB2 := Lib.hid (hb1.trans (hb2.mono (by have h1 := hb1.size; have h2 := HCB.out; omega)))
  clear bc bk br hb1 hb2 HFD H H1
  have BC2 := Lib.hid bc2; have BK2 := Lib.hid bk2; have BR2 := Lib.hid br2
  clear bc2 bk2 br2
  obtain ⟨a', c', he, hcap, hrow⟩ := H2.out
  obtain ⟨rfl, -, rfl⟩ := Value.slice.inj he
  obtain ⟨g, rfl, hg⟩ := hrow (by omega)
  have hb : P[A.length]? = some b := by rw [HP.out]; simp
  have d0 := hg.c0 _ b hb
  have d1 := hg.c1 _ b hb
  have d2 := hg.c2 _ b hb
  have d3 := hg.c3 _ b hb
  have d4 := hg.c4 _ b hb
  have k0 : w2.cell? ⟨cb, 0, none⟩ = some (.int .i64 room) := cell_blk_some BC2.out rfl
  have k1 : w2.cell? ⟨cb, 1, none⟩ = some (.slice (some ⟨g, 0, none⟩) P.length c) := cell_blk_some BC2.out rfl
  have m1 : (A.length : Int) < (P.length : Int) := by omega
  have m2 : (0 : Int) ≤ (A.length : Int) := by omega
  obtain rfl := HR.out
  clear he hrow hg hb
  obtain ⟨⟨bk1, bk2⟩, bd, bdy, bp⟩ := b
  simp only at d0 d1 d2 d3 d4
  go_upto_region 6 with fail
  obtain ⟨w3, hw3⟩ : ∃ w3, w3 = w2.alloc (.cells #[.int .i64 bk1, .int .i64 bk2, .string (strD bd), .bool bdy, .int .i64 bp] 86) := ⟨_, rfl⟩
  have bn3 : w3.heap[w2.heap.size]? = some (.cells #[.int .i64 bk1, .int .i64 bk2, .string (strD bd), .bool bdy, .int .i64 bp] 86 (0, 0)) := by rw [hw3]; exact blk_new rfl
  have f3 : Fr (fun x => w2.heap.size ≤ x) w2 w3 := by rw [hw3]; exact (Fr.refl _ w2).alloc _
  rw [← hw3]
  clear hw3
  have nb2 : cb ≤ w2.heap.size := by have := blk_lt BC2.out; omega
  have nbc : cb < w2.heap.size := blk_lt BC2.out
  have nbr : rb < w2.heap.size := blk_lt BR2.out
  have nz := free_blk (i := 2) bn3
  have nz3 := free_blk (i := 3) bn3
  have n3 : w3.cell? ⟨w2.heap.size, 3, none⟩ = some (.bool bdy) := cell_blk_some bn3 rfl
  have n4 : (w3.setCell ⟨w2.heap.size, 2, none⟩ (.string (strD d))).cell? ⟨w2.heap.size, 3, none⟩ = some (.bool bdy) := cell_blk_some (blk_set (i := 2) bn3 (.string (strD d))) rfl
  have nz4 := free_blk (i := 3) (blk_set (i := 2) bn3 (.string (strD d)))
  have n2 : w3.cell? ⟨w2.heap.size, 2, none⟩ = some (.string (strD bd)) := cell_blk_some bn3 rfl
  have F3 := Lib.hid f3; have BN3 := Lib.hid bn3
  clear f3 bn3 d0 d1 d2 d3 d4 k0 k1
  cases bdy
  focus
    go_upto_region 8 with fail
    have bn4 := blk_set (i := 3) (blk_set (i := 2) BN3.out (.string (strD d))) (.bool dy)
    have f4 := ((F3.out).setCell ⟨w2.heap.size, 2, none⟩ (Nat.le_refl _) (.string (strD d))).setCell ⟨w2.heap.size, 3, none⟩ (Nat.le_refl _) (.bool dy)
    generalize (w3.setCell ⟨w2.heap.size, 2, none⟩ (.string (strD d))).setCell ⟨w2.heap.size, 3, none⟩ (.bool dy) = w4 at bn4 f4 ⊢
    have bc4 := (f4.block cb nbc (by omega)).trans BC2.out
    have br4 := (f4.block rb nbr (by omega)).trans BR2.out
    have h4 := H2.out.below (f4.toBelow (Nat.le_refl _) fun _ h => h)
    have hb4 := FB2.out.trans (f4.toBelow (B := cb) (by omega) fun _ h => by omega)
    have x0 : w4.cell? ⟨cb, 0, none⟩ = some (.int .i64 room) := cell_blk_some bc4 rfl
    have x1 : w4.cell? ⟨cb, 1, none⟩ = some (.slice (some ⟨g, 0, none⟩) P.length c) := cell_blk_some bc4 rfl
    have y0 : w4.cell? ⟨w2.heap.size, 0, none⟩ = some (.int .i64 bk1) := cell_blk_some bn4 rfl
    have y1 : w4.cell? ⟨w2.heap.size, 1, none⟩ = some (.int .i64 bk2) := cell_blk_some bn4 rfl
    have y2 : w4.cell? ⟨w2.heap.size, 2, none⟩ = some (.string (strD d)) := cell_blk_some bn4 rfl
    have y3 : w4.cell? ⟨w2.heap.size, 3, none⟩ = some (.bool dy) := cell_blk_some bn4 rfl
    have y4 : w4.cell? ⟨w2.heap.size, 4, none⟩ = some (.int .i64 bp) := cell_blk_some bn4 rfl
    have HU := Lib.hid (used_any (room := room) (x := ⟨(bk1, bk2), d, dy, bp⟩) (R := A ++ B) h4 hl (.inr ⟨A, _, B, HP.out, rfl, rfl, HN.out⟩))
    have B4 := Lib.hid hb4; have BR4 := Lib.hid br4
    clear bc4 br4 h4 hb4 bn4 f4 F3 BN3 H2 BC2 BR2 BK2 FB2 nz nz3 nz4 n4 n2 n3 m1 m2 q0 q1
    unfold refV valB at HU
    go_wp2_with fail
    refine HU.out.mono ?_
    rintro e w5 ⟨v5, rfl, h5, hb5⟩
    obtain ⟨a5, c5, hs5, hc5, hr5⟩ := h5
    subst hs5
    have br5 := blk_below hb5 (blk_lt BR4.out) BR4.out
    have hb6 := B4.out.trans (hb5.mono (by have h1 := B4.out.size; have h2 := HCB.out; omega))
    have z0 := free_blk (i := 0) br5
    have z1 := free_blk (i := 1) br5
    have h5 : RefAt w5 (.slice a5 (A ++ B ++ [(⟨(bk1, bk2), d, dy, bp⟩ : Pb)]).length c5) (A ++ B ++ [(⟨(bk1, bk2), d, dy, bp⟩ : Pb)]) := ⟨a5, c5, rfl, hc5, hr5⟩
    have H5 := Lib.hid h5; have B6 := Lib.hid hb6; have BR5 := Lib.hid br5
    clear hc5 hr5 br5 hb6 hb5 h5
    have r0 : w5.cell? ⟨rb, 0, none⟩ = some (.int .i64 0) := cell_blk_some BR5.out rfl
    have r1 : w5.cell? ⟨rb, 1, none⟩ = some (.slice none 0 0) := cell_blk_some BR5.out rfl
    generalize hR5 : A ++ B ++ [(⟨(bk1, bk2), d, dy, bp⟩ : Pb)] = R5 at H5 ⊢
    go_wp2_with fail
    have br6 := blk_set (i := 1) (blk_set (i := 0) BR5.out (.int .i64 room)) (.slice a5 R5.length c5)
    refine bodyPost_ret (results_row_tmp rfl _ _ rb _ _ _ _ rfl br6 Try.underlying52 rfl (by kernel_rfl)) rfl ?_
    have hf : Fr (fun y => y = rb) w5 ((w5.setCell ⟨rb, 0, none⟩ (.int .i64 room)).setCell ⟨rb, 1, none⟩ (.slice a5 R5.length c5)) := ((Fr.refl (fun y => y = rb) w5).setCell ⟨rb, 0, none⟩ rfl _).setCell ⟨rb, 1, none⟩ rfl _
    refine ⟨.slice a5 R5.length c5, rfl, ?_, ?_⟩
    · have hq : w5.cell? ⟨rb, 2, none⟩ = none := by rw [cell_blk BR5.out]; rfl
      subst hR5
      exact H5.out.off hq hf
    · rw [HCB.out]
      have h2 := HCB.out
      have h3 := B6.out.size
      exact B6.out.trans (hf.toBelow (B := cb) (by omega) fun y hy => by rw [show y = rb from hy]; exact hl2)

  focus
    go_upto_region 8 with fail
    have bn4 := blk_set (i := 3) (blk_set (i := 2) BN3.out (.string (strD d))) (.bool true)
    have f4 := ((F3.out).setCell ⟨w2.heap.size, 2, none⟩ (Nat.le_refl _) (.string (strD d))).setCell ⟨w2.heap.size, 3, none⟩ (Nat.le_refl _) (.bool true)
    generalize (w3.setCell ⟨w2.heap.size, 2, none⟩ (.string (strD d))).setCell ⟨w2.heap.size, 3, none⟩ (.bool true) = w4 at bn4 f4 ⊢
    have bc4 := (f4.block cb nbc (by omega)).trans BC2.out
    have br4 := (f4.block rb nbr (by omega)).trans BR2.out
    have h4 := H2.out.below (f4.toBelow (Nat.le_refl _) fun _ h => h)
    have hb4 := FB2.out.trans (f4.toBelow (B := cb) (by omega) fun _ h => by omega)
    have x0 : w4.cell? ⟨cb, 0, none⟩ = some (.int .i64 room) := cell_blk_some bc4 rfl
    have x1 : w4.cell? ⟨cb, 1, none⟩ = some (.slice (some ⟨g, 0, none⟩) P.length c) := cell_blk_some bc4 rfl
    have y0 : w4.cell? ⟨w2.heap.size, 0, none⟩ = some (.int .i64 bk1) := cell_blk_some bn4 rfl
    have y1 : w4.cell? ⟨w2.heap.size, 1, none⟩ = some (.int .i64 bk2) := cell_blk_some bn4 rfl
    have y2 : w4.cell? ⟨w2.heap.size, 2, none⟩ = some (.string (strD d)) := cell_blk_some bn4 rfl
    have y3 : w4.cell? ⟨w2.heap.size, 3, none⟩ = some (.bool true) := cell_blk_some bn4 rfl
    have y4 : w4.cell? ⟨w2.heap.size, 4, none⟩ = some (.int .i64 bp) := cell_blk_some bn4 rfl
    have HU := Lib.hid (used_any (room := room) (x := ⟨(bk1, bk2), d, true, bp⟩) (R := A ++ B) h4 hl (.inr ⟨A, _, B, HP.out, rfl, rfl, HN.out⟩))
    have B4 := Lib.hid hb4; have BR4 := Lib.hid br4
    clear bc4 br4 h4 hb4 bn4 f4 F3 BN3 H2 BC2 BR2 BK2 FB2 nz nz3 nz4 n4 n2 n3 m1 m2 q0 q1
    unfold refV valB at HU
    go_wp2_with fail
    refine HU.out.mono ?_
    rintro e w5 ⟨v5, rfl, h5, hb5⟩
    obtain ⟨a5, c5, hs5, hc5, hr5⟩ := h5
    subst hs5
    have br5 := blk_below hb5 (blk_lt BR4.out) BR4.out
    have hb6 := B4.out.trans (hb5.mono (by have h1 := B4.out.size; have h2 := HCB.out; omega))
    have z0 := free_blk (i := 0) br5
    have z1 := free_blk (i := 1) br5
    have h5 : RefAt w5 (.slice a5 (A ++ B ++ [(⟨(bk1, bk2), d, true, bp⟩ : Pb)]).length c5) (A ++ B ++ [(⟨(bk1, bk2), d, true, bp⟩ : Pb)]) := ⟨a5, c5, rfl, hc5, hr5⟩
    have H5 := Lib.hid h5; have B6 := Lib.hid hb6; have BR5 := Lib.hid br5
    clear hc5 hr5 br5 hb6 hb5 h5
    have r0 : w5.cell? ⟨rb, 0, none⟩ = some (.int .i64 0) := cell_blk_some BR5.out rfl
    have r1 : w5.cell? ⟨rb, 1, none⟩ = some (.slice none 0 0) := cell_blk_some BR5.out rfl
    generalize hR5 : A ++ B ++ [(⟨(bk1, bk2), d, true, bp⟩ : Pb)] = R5 at H5 ⊢
    go_wp2_with fail
    have br6 := blk_set (i := 1) (blk_set (i := 0) BR5.out (.int .i64 room)) (.slice a5 R5.length c5)
    refine bodyPost_ret (results_row_tmp rfl _ _ rb _ _ _ _ rfl br6 Try.underlying52 rfl (by kernel_rfl)) rfl ?_
    have hf : Fr (fun y => y = rb) w5 ((w5.setCell ⟨rb, 0, none⟩ (.int .i64 room)).setCell ⟨rb, 1, none⟩ (.slice a5 R5.length c5)) := ((Fr.refl (fun y => y = rb) w5).setCell ⟨rb, 0, none⟩ rfl _).setCell ⟨rb, 1, none⟩ rfl _
    refine ⟨.slice a5 R5.length c5, rfl, ?_, ?_⟩
    · have hq : w5.cell? ⟨rb, 2, none⟩ = none := by rw [cell_blk BR5.out]; rfl
      subst hR5
      exact H5.out.off hq hf
    · rw [HCB.out]
      have h2 := HCB.out
      have h3 := B6.out.size
      exact B6.out.trans (hf.toBelow (B := cb) (by omega) fun y hy => by rw [show y = rb from hy]; exact hl2)

set_option maxHeartbeats 4000000 in
set_option maxRecDepth 100000 in
theorem refPut_range {w : World} {v : Value} {P : List Pb} {room : Int} {k : Int × Int} {d : List Value} {dy : Bool} (h : RefAt w v P) (h64 : d.length ≠ 64) :
    Calls Try.prog 20 #[refV room v, keyV k, .string (strD d), .bool dy] w fun e w' => e = .returned (.tuple #[refV room v, .int .i64 22]) ∧ Below w.heap.size w w' := by
  have q1 : (((strD d).size : Int) == 64) = false := by rw [strD_size]; exact beq_eq_false_iff_ne.2 (by omega)
  have q2 : (((strD d).size : Int) != 64) = true := by rw [bne, q1]; rfl
  obtain ⟨a, c, rfl, -, -⟩ := h
  clear h64
  obtain ⟨k1, k2⟩ := k
  unfold refV keyV
  go_enter Try.func20, Try.ntmps20
  go_upto_region 1 with fail
  obtain ⟨w1, hw1⟩ : ∃ w1, w1 = ((w.alloc (.cells #[.int .i64 room, .slice a P.length c] 52)).alloc (.cells #[.int .i64 k1, .int .i64 k2] 55)).alloc (.cells #[.int .i64 0, .slice none 0 0] 52) := ⟨_, rfl⟩
  have bc : w1.heap[w.heap.size]? = some (.cells #[.int .i64 room, .slice a P.length c] 52 (0, 0)) := by rw [hw1]; exact blk_old (blk_old (blk_new rfl))
  have bk : w1.heap[w.heap.size + 1]? = some (.cells #[.int .i64 k1, .int .i64 k2] 55 (0, 0)) := by rw [hw1]; exact blk_old (blk_new (by simp))
  have br : w1.heap[w.heap.size + 1 + 1]? = some (.cells #[.int .i64 0, .slice none 0 0] 52 (0, 0)) := by rw [hw1]; exact blk_new (by simp)
  have hb1 : Below w.heap.size w w1 := by rw [hw1]; exact below_alloc (below_alloc (below_alloc (Below.refl _ w) (Nat.le_refl _) _) (Nat.le_refl _) _) (Nat.le_refl _) _
  rw [← hw1]
  clear hw1
  have hd1 : w.heap.size ≠ w.heap.size + 1 := by omega
  have hd2 : w.heap.size ≠ w.heap.size + 1 + 1 := by omega
  have hd3 : w.heap.size + 1 ≠ w.heap.size + 1 + 1 := by omega
  have hl1 : w.heap.size ≤ w.heap.size + 1 := by omega
  have hl2 : w.heap.size ≤ w.heap.size + 1 + 1 := by omega
  generalize w.heap.size + 1 + 1 = rb at br hd2 hd3 hl2 ⊢
  generalize w.heap.size + 1 = kb at bk hd1 hd3 hl1 ⊢
  generalize hcb : w.heap.size = cb at bc hb1 hd1 hd2 hl1 hl2 ⊢
  have HCB := Lib.hid hcb
  have BC2 := Lib.hid bc; have BR2 := Lib.hid br; have FB2 := Lib.hid hb1
  clear hcb bc br hb1
  have r0 : w1.cell? ⟨rb, 0, none⟩ = some (.int .i64 0) := cell_blk_some BR2.out rfl
  have r1 : w1.cell? ⟨rb, 1, none⟩ = some (.slice none 0 0) := cell_blk_some BR2.out rfl
  have z0 := free_blk (i := 0) BR2.out
  have z1 := free_blk (i := 1) BR2.out
  have x0 : w1.cell? ⟨cb, 0, none⟩ = some (.int .i64 room) := cell_blk_some BC2.out rfl
  have x1 : w1.cell? ⟨cb, 1, none⟩ = some (.slice a P.length c) := cell_blk_some BC2.out rfl
  go_wp2_with fail
  have br6 := blk_set (i := 1) (blk_set (i := 0) BR2.out (.int .i64 room)) (.slice a P.length c)
  refine bodyPost_ret (results_row_tmp rfl _ _ rb _ _ _ _ rfl br6 Try.underlying52 rfl (by kernel_rfl)) rfl ?_
  have hf : Fr (fun y => y = rb) w1 ((w1.setCell ⟨rb, 0, none⟩ (.int .i64 room)).setCell ⟨rb, 1, none⟩ (.slice a P.length c)) := ((Fr.refl (fun y => y = rb) w1).setCell ⟨rb, 0, none⟩ rfl _).setCell ⟨rb, 1, none⟩ rfl _
  have hbe : Below w.heap.size w ((w1.setCell ⟨rb, 0, none⟩ (.int .i64 room)).setCell ⟨rb, 1, none⟩ (.slice a P.length c)) := by
    rw [HCB.out]
    have h2 := HCB.out
    have h3 := FB2.out.size
    exact FB2.out.trans (hf.toBelow (B := cb) (by omega) fun y hy => by rw [show y = rb from hy]; exact hl2)
  exact ⟨rfl, hbe⟩
set_option maxHeartbeats 4000000 in
set_option maxRecDepth 100000 in
theorem refPut_new {w : World} {v : Value} {P : List Pb} {room : Int} {k : Int × Int} {d : List Value} {dy : Bool} (h : RefAt w v P) (hl : P.length ≤ 100000) (hn : ∀ b ∈ P, b.k ≠ k) (h64 : d.length = 64) (hroom : (P.length : Int) < room) :
    Calls Try.prog 20 #[refV room v, keyV k, .string (strD d), .bool dy] w fun e w' => ∃ v', e = .returned (.tuple #[refV room v', .int .i64 0]) ∧ RefAt w' v' (P ++ [⟨k, d, dy, 0⟩]) ∧ Below w.heap.size w w' := by
  have hfd : ∀ w, RefAt w v P → Calls Try.prog 40 #[refV room v, keyV k] w fun e w' => e = .returned (.int .i64 (-1)) ∧ Below w.heap.size w w' := fun w h => find_miss h hl hn
  have hsz : (strD d).size = 64 := by rw [strD_size, h64]
  have q0 : decide (room ≤ (P.length : Int)) = false := decide_eq_false (by omega)
  have HN := Lib.hid hn
  clear hn h64
  have hsh : ∃ a c, v = .slice a P.length c := by obtain ⟨a, c, he, _⟩ := h; exact ⟨a, c, he⟩
  obtain ⟨a, c, rfl⟩ := hsh
  have H := Lib.hid h
  clear h
  obtain ⟨k1, k2⟩ := k
  have HFD := Lib.hid hfd
  clear hfd
  unfold refV keyV
  unfold refV keyV at HFD
  go_enter Try.func20, Try.ntmps20
  go_wp2_with fail
  obtain ⟨w1, hw1⟩ : ∃ w1, w1 = ((w.alloc (.cells #[.int .i64 room, .slice a P.length c] 52)).alloc (.cells #[.int .i64 k1, .int .i64 k2] 55)).alloc (.cells #[.int .i64 0, .slice none 0 0] 52) := ⟨_, rfl⟩
  have bc : w1.heap[w.heap.size]? = some (.cells #[.int .i64 room, .slice a P.length c] 52 (0, 0)) := by rw [hw1]; exact blk_old (blk_old (blk_new rfl))
  have bk : w1.heap[w.heap.size + 1]? = some (.cells #[.int .i64 k1, .int .i64 k2] 55 (0, 0)) := by rw [hw1]; exact blk_old (blk_new (by simp))
  have br : w1.heap[w.heap.size + 1 + 1]? = some (.cells #[.int .i64 0, .slice none 0 0] 52 (0, 0)) := by rw [hw1]; exact blk_new (by simp)
  have hb1 : Below w.heap.size w w1 := by rw [hw1]; exact below_alloc (below_alloc (below_alloc (Below.refl _ w) (Nat.le_refl _) _) (Nat.le_refl _) _) (Nat.le_refl _) _
  rw [← hw1]
  clear hw1
  have hd1 : w.heap.size ≠ w.heap.size + 1 := by omega
  have hd2 : w.heap.size ≠ w.heap.size + 1 + 1 := by omega
  have hd3 : w.heap.size + 1 ≠ w.heap.size + 1 + 1 := by omega
  have hl1 : w.heap.size ≤ w.heap.size + 1 := by omega
  have hl2 : w.heap.size ≤ w.heap.size + 1 + 1 := by omega
  generalize w.heap.size + 1 + 1 = rb at br hd2 hd3 hl2 ⊢
  generalize w.heap.size + 1 = kb at bk hd1 hd3 hl1 ⊢
  generalize hcb : w.heap.size = cb at bc hb1 hd1 hd2 hl1 hl2 ⊢
  have H1 := Lib.hid (H.out.below (by rw [hcb]; exact hb1))
  have HCB := Lib.hid hcb
  clear hcb
  refine (HFD.out _ H1.out).mono ?_
  rintro e w2 ⟨rfl, hb2⟩
  have bc2 := blk_below hb2 (blk_lt bc) bc
  have bk2 := blk_below hb2 (blk_lt bk) bk
  have br2 := blk_below hb2 (blk_lt br) br
  have H2 := Lib.hid (H1.out.below hb2)
  have FB2 := Lib.hid (hb1.trans (hb2.mono (by have h1 := hb1.size; have h2 := HCB.out; omega)))
  clear bc bk br hb1 hb2 HFD H H1
  have BC2 := Lib.hid bc2; have BK2 := Lib.hid bk2; have BR2 := Lib.hid br2
  clear bc2 bk2 br2
  have x0 : w2.cell? ⟨cb, 0, none⟩ = some (.int .i64 room) := cell_blk_some BC2.out rfl
  have x1 : w2.cell? ⟨cb, 1, none⟩ = some (.slice a P.length c) := cell_blk_some BC2.out rfl
  have y0 : w2.cell? ⟨kb, 0, none⟩ = some (.int .i64 k1) := cell_blk_some BK2.out rfl
  have y1 : w2.cell? ⟨kb, 1, none⟩ = some (.int .i64 k2) := cell_blk_some BK2.out rfl
  have HU := Lib.hid (used_any (room := room) (x := ⟨(k1, k2), d, dy, 0⟩) (R := P) H2.out hl (.inl ⟨HN.out, rfl⟩))
  have B4 := Lib.hid FB2.out; have BR4 := Lib.hid BR2.out
  unfold refV valB at HU
  go_wp2_with fail
  refine HU.out.mono ?_
  rintro e w5 ⟨v5, rfl, h5, hb5⟩
  obtain ⟨a5, c5, hs5, hc5, hr5⟩ := h5
  subst hs5
  have br5 := blk_below hb5 (blk_lt BR4.out) BR4.out
  have hb6 := B4.out.trans (hb5.mono (by have h1 := B4.out.size; have h2 := HCB.out; omega))
  have z0 := free_blk (i := 0) br5
  have z1 := free_blk (i := 1) br5
  have h5 : RefAt w5 (.slice a5 (P ++ [(⟨(k1, k2), d, dy, 0⟩ : Pb)]).length c5) (P ++ [(⟨(k1, k2), d, dy, 0⟩ : Pb)]) := ⟨a5, c5, rfl, hc5, hr5⟩
  have H5 := Lib.hid h5; have B6 := Lib.hid hb6; have BR5 := Lib.hid br5
  clear hc5 hr5 br5 hb6 hb5 h5
  have r0 : w5.cell? ⟨rb, 0, none⟩ = some (.int .i64 0) := cell_blk_some BR5.out rfl
  have r1 : w5.cell? ⟨rb, 1, none⟩ = some (.slice none 0 0) := cell_blk_some BR5.out rfl
  generalize hR5 : P ++ [(⟨(k1, k2), d, dy, 0⟩ : Pb)] = R5 at H5 ⊢
  go_wp2_with fail
  have br6 := blk_set (i := 1) (blk_set (i := 0) BR5.out (.int .i64 room)) (.slice a5 R5.length c5)
  refine bodyPost_ret (results_row_tmp rfl _ _ rb _ _ _ _ rfl br6 Try.underlying52 rfl (by kernel_rfl)) rfl ?_
  have hf : Fr (fun y => y = rb) w5 ((w5.setCell ⟨rb, 0, none⟩ (.int .i64 room)).setCell ⟨rb, 1, none⟩ (.slice a5 R5.length c5)) := ((Fr.refl (fun y => y = rb) w5).setCell ⟨rb, 0, none⟩ rfl _).setCell ⟨rb, 1, none⟩ rfl _
  refine ⟨.slice a5 R5.length c5, rfl, ?_, ?_⟩
  · have hq : w5.cell? ⟨rb, 2, none⟩ = none := by rw [cell_blk BR5.out]; rfl
    subst hR5
    exact H5.out.off hq hf
  · rw [HCB.out]
    have h2 := HCB.out
    have h3 := B6.out.size
    exact B6.out.trans (hf.toBelow (B := cb) (by omega) fun y hy => by rw [show y = rb from hy]; exact hl2)
set_option maxHeartbeats 4000000 in
set_option maxRecDepth 100000 in
theorem refPut_room {w : World} {v : Value} {P P' : List Pb} {room er r2 : Int} {k : Int × Int} {d : List Value} {dy : Bool} (h : RefAt w v P) (hl : P.length ≤ 100000) (hn : ∀ b ∈ P, b.k ≠ k) (h64 : d.length = 64) (hroom : room ≤ (P.length : Int)) (hp : ∀ b ∈ P, 0 ≤ b.pins)
    (hq : (r2 = -1 ∧ (∀ x ∈ P, x.stuck = true) ∧ er = 28 ∧ P' = P) ∨ (∃ A b B, P = A ++ b :: B ∧ r2 = (A.length : Nat) ∧ (∀ x ∈ A, x.stuck = true) ∧ b.stuck = false ∧ er = 0 ∧ P' = A ++ B ++ [⟨k, d, dy, 0⟩])) :
    Calls Try.prog 20 #[refV room v, keyV k, .string (strD d), .bool dy] w fun e w' => ∃ v', e = .returned (.tuple #[refV room v', .int .i64 er]) ∧ RefAt w' v' P' ∧ Below w.heap.size w w' := by
  have hfd : ∀ w, RefAt w v P → Calls Try.prog 40 #[refV room v, keyV k] w fun e w' => e = .returned (.int .i64 (-1)) ∧ Below w.heap.size w w' := fun w h => find_miss h hl hn
  have hsz : (strD d).size = 64 := by rw [strD_size, h64]
  have q0 : decide (room ≤ (P.length : Int)) = true := decide_eq_true (by omega)
  have hall : (∀ x ∈ P, x.stuck = true) → r2 = -1 := fun hs => by
    rcases hq with ⟨h, _⟩ | ⟨A, b, B, rfl, _, _, hb, _⟩
    · exact h
    · have := hs b (by simp)
      rw [hb] at this; cases this
  have hone : ∀ (t : Nat) b, P[t]? = some b → b.stuck = false → (∀ (j : Nat) x, j < t → P[j]? = some x → x.stuck = true) → r2 = (t : Nat) := fun t b ht hb hs => by
    rcases hq with ⟨_, h, _⟩ | ⟨A, b', B, rfl, hr, hA, hb', _⟩
    · have := h b (List.mem_of_getElem? ht)
      rw [hb] at this; cases this
    · rw [hr]
      rcases Nat.lt_trichotomy t A.length with hlt | heq | hgt
      · rw [List.getElem?_append_left hlt] at ht
        have := hA b (List.mem_of_getElem? ht)
        rw [hb] at this; cases this
      · rw [heq]
      · have := hs A.length b' hgt (by simp)
        rw [hb'] at this; cases this
  have HN := Lib.hid hn; have HQ := Lib.hid hq; have HA := Lib.hid hall; have HO := Lib.hid hone; have HP := Lib.hid hp
  clear hn h64 hq hall hone hp
  have hsh : ∃ a c, v = .slice a P.length c := by obtain ⟨a, c, he, _⟩ := h; exact ⟨a, c, he⟩
  obtain ⟨a, c, rfl⟩ := hsh
  have H := Lib.hid h
  clear h
  obtain ⟨k1, k2⟩ := k
  have HFD := Lib.hid hfd
  clear hfd
  unfold refV keyV
  unfold refV keyV at HFD
  go_enter Try.func20, Try.ntmps20
  go_wp2_with fail
  obtain ⟨w1, hw1⟩ : ∃ w1, w1 = ((w.alloc (.cells #[.int .i64 room, .slice a P.length c] 52)).alloc (.cells #[.int .i64 k1, .int .i64 k2] 55)).alloc (.cells #[.int .i64 0, .slice none 0 0] 52) := ⟨_, rfl⟩
  have bc : w1.heap[w.heap.size]? = some (.cells #[.int .i64 room, .slice a P.length c] 52 (0, 0)) := by rw [hw1]; exact blk_old (blk_old (blk_new rfl))
  have bk : w1.heap[w.heap.size + 1]? = some (.cells #[.int .i64 k1, .int .i64 k2] 55 (0, 0)) := by rw [hw1]; exact blk_old (blk_new (by simp))
  have br : w1.heap[w.heap.size + 1 + 1]? = some (.cells #[.int .i64 0, .slice none 0 0] 52 (0, 0)) := by rw [hw1]; exact blk_new (by simp)
  have hb1 : Below w.heap.size w w1 := by rw [hw1]; exact below_alloc (below_alloc (below_alloc (Below.refl _ w) (Nat.le_refl _) _) (Nat.le_refl _) _) (Nat.le_refl _) _
  rw [← hw1]
  clear hw1
  have hd1 : w.heap.size ≠ w.heap.size + 1 := by omega
  have hd2 : w.heap.size ≠ w.heap.size + 1 + 1 := by omega
  have hd3 : w.heap.size + 1 ≠ w.heap.size + 1 + 1 := by omega
  have hl1 : w.heap.size ≤ w.heap.size + 1 := by omega
  have hl2 : w.heap.size ≤ w.heap.size + 1 + 1 := by omega
  generalize w.heap.size + 1 + 1 = rb at br hd2 hd3 hl2 ⊢
  generalize w.heap.size + 1 = kb at bk hd1 hd3 hl1 ⊢
  generalize hcb : w.heap.size = cb at bc hb1 hd1 hd2 hl1 hl2 ⊢
  have H1 := Lib.hid (H.out.below (by rw [hcb]; exact hb1))
  have HCB := Lib.hid hcb
  clear hcb
  refine (HFD.out _ H1.out).mono ?_
  rintro e w2 ⟨rfl, hb2⟩
  have bc2 := blk_below hb2 (blk_lt bc) bc
  have bk2 := blk_below hb2 (blk_lt bk) bk
  have br2 := blk_below hb2 (blk_lt br) br
  have H2 := Lib.hid (H1.out.below hb2)
  have FB2 := Lib.hid (hb1.trans (hb2.mono (by have h1 := hb1.size; have h2 := HCB.out; omega)))
  clear bc bk br hb1 hb2 HFD H H1
  have BC2 := Lib.hid bc2; have BK2 := Lib.hid bk2; have BR2 := Lib.hid br2
  clear bc2 bk2 br2
  have x0 : w2.cell? ⟨cb, 0, none⟩ = some (.int .i64 room) := cell_blk_some BC2.out rfl
  have x1 : w2.cell? ⟨cb, 1, none⟩ = some (.slice a P.length c) := cell_blk_some BC2.out rfl
  go_wp2_with fail
  go_loop [12, 48] (fun at' i => ∃ t : Nat, t ≤ P.length ∧ i = .int .i64 t ∧ ∃ z : Int, at' = .int .i64 z ∧ ((z = -1 ∧ ∀ (j : Nat) x, j < t → P[j]? = some x → x.stuck = true) ∨ (0 ≤ z ∧ z = r2))) (fun _ i => P.length - (intOf i).toNat)
  case atStart => exact ⟨0, Nat.zero_le _, rfl, -1, rfl, .inl ⟨rfl, fun j x h => by omega⟩⟩
  case round =>
    obtain ⟨t, ht, rfl, z, rfl, hz⟩ := hrel
    have HZ := Lib.hid hz
    clear hz
    by_cases hlt : t < P.length
    · obtain ⟨a', c', he, hcap, hrow⟩ := H2.out
      obtain ⟨rfl, -, rfl⟩ := Value.slice.inj he
      obtain ⟨g, rfl, hg⟩ := hrow (by omega)
      obtain ⟨b, hb⟩ : ∃ b, P[t]? = some b := ⟨_, List.getElem?_eq_getElem hlt⟩
      have d3 := hg.c3 t b hb
      have d4 := hg.c4 t b hb
      have m1 : (t : Int) < (P.length : Int) := by omega
      have m2 : (0 : Int) ≤ (t : Int) := by omega
      have hpb := HP.out b (List.mem_of_getElem? hb)
      have hst : b.stuck = (b.dirty || decide (0 < b.pins)) := rfl
      have HB := Lib.hid hb; have HS := Lib.hid hst
      clear hrow hg hb hst he
      by_cases hz : 0 ≤ z
      · have hz2 : z = r2 := by rcases HZ.out with ⟨h, _⟩ | ⟨_, h⟩ <;> omega
        have q2 : decide (z < 0) = false := decide_eq_false (by omega)
        have HZ2 := Lib.hid hz2
        clear hz2
        go_wp2_with fail
        go_round
        case rel => exact ⟨t + 1, by omega, by go_num, z, rfl, .inr ⟨hz, HZ2.out⟩⟩
        case measure => simp [intOf]; omega
      · have hz1 : z = -1 ∧ ∀ (j : Nat) x, j < t → P[j]? = some x → x.stuck = true := by
          rcases HZ.out with h | ⟨h, _⟩
          · exact h
          · omega
        obtain ⟨rfl, hno⟩ := hz1
        have HNO := Lib.hid hno
        clear hno hz HZ
        have hnext : b.stuck = true → ∀ (j : Nat) x, j < t + 1 → P[j]? = some x → x.stuck = true := fun hs j x hj hx => by
          by_cases hjt : j < t
          · exact HNO.out j x hjt hx
          · obtain rfl : j = t := by omega
            rw [HB.out] at hx
            rw [← Option.some.inj hx]; exact hs
        have HNX := Lib.hid hnext
        clear hnext
        obtain ⟨bk, bd, bdy, bp⟩ := b
        simp only at d3 d4 hpb
        cases bdy
        focus
          by_cases hp0 : bp = 0
          · subst hp0
            have hrt : r2 = (t : Nat) := HO.out t _ HB.out rfl HNO.out
            have HRT := Lib.hid hrt
            clear hrt
            go_wp2_with fail
            go_round
            case rel => exact ⟨t + 1, by omega, by go_num, t, rfl, .inr ⟨by omega, HRT.out.symm⟩⟩
            case measure => simp [intOf]; omega
          · have q3 : (bp == 0) = false := beq_eq_false_iff_ne.2 hp0
            have HX := Lib.hid (HNX.out (by rw [HS.out]; simp; omega))
            clear hp0
            go_wp2_with fail
            go_round
            case rel => exact ⟨t + 1, by omega, by go_num, -1, rfl, .inl ⟨rfl, HX.out⟩⟩
            case measure => simp [intOf]; omega
        focus
          have HX := Lib.hid (HNX.out (by rw [HS.out]; rfl))
          go_wp2_with fail
          go_round
          case rel => exact ⟨t + 1, by omega, by go_num, -1, rfl, .inl ⟨rfl, HX.out⟩⟩
          case measure => simp [intOf]; omega
    · obtain rfl : t = P.length := by omega
      have hzr : z = r2 := by
        rcases HZ.out with ⟨h, hs⟩ | ⟨_, h⟩
        · rw [h, HA.out fun x hx => ?_]
          obtain ⟨j, hj⟩ := List.mem_iff_getElem?.1 hx
          exact hs j x (List.getElem?_eq_some_iff.1 hj).1 hj
        · exact h
      subst hzr
      clear HZ HA HO hlt ht
      rcases HQ.out with ⟨rfl, -, rfl, hPP⟩ | ⟨A, b, B, hP, rfl, -, -, rfl, rfl⟩
      · have HPP := Lib.hid hPP
        clear HQ x0 x1 hPP
        have r0 : w2.cell? ⟨rb, 0, none⟩ = some (.int .i64 0) := cell_blk_some BR2.out rfl
        have r1 : w2.cell? ⟨rb, 1, none⟩ = some (.slice none 0 0) := cell_blk_some BR2.out rfl
        have z0 := free_blk (i := 0) BR2.out
        have z1 := free_blk (i := 1) BR2.out
        have x0 : w2.cell? ⟨cb, 0, none⟩ = some (.int .i64 room) := cell_blk_some BC2.out rfl
        have x1 : w2.cell? ⟨cb, 1, none⟩ = some (.slice a P.length c) := cell_blk_some BC2.out rfl
        go_wp2_with fail
        have br6 := blk_set (i := 1) (blk_set (i := 0) BR2.out (.int .i64 room)) (.slice a P.length c)
        refine bodyPost_ret (results_row_tmp rfl _ _ rb _ _ _ _ rfl br6 Try.underlying52 rfl (by kernel_rfl)) rfl ?_
        have hf : Fr (fun y => y = rb) w2 ((w2.setCell ⟨rb, 0, none⟩ (.int .i64 room)).setCell ⟨rb, 1, none⟩ (.slice a P.length c)) := ((Fr.refl (fun y => y = rb) w2).setCell ⟨rb, 0, none⟩ rfl _).setCell ⟨rb, 1, none⟩ rfl _
        have hbe : Below w.heap.size w ((w2.setCell ⟨rb, 0, none⟩ (.int .i64 room)).setCell ⟨rb, 1, none⟩ (.slice a P.length c)) := by
          rw [HCB.out]
          have h2 := HCB.out
          have h3 := FB2.out.size
          exact FB2.out.trans (hf.toBelow (B := cb) (by omega) fun y hy => by rw [show y = rb from hy]; exact hl2)
        have hq : w2.cell? ⟨rb, 2, none⟩ = none := by rw [cell_blk BR2.out]; rfl
        exact ⟨_, rfl, by rw [HPP.out]; exact H2.out.off hq hf, hbe⟩
      · clear HQ
        have q3 : decide ((A.length : Int) < 0) = false := decide_eq_false (by omega)
        have hiA : A.length < P.length := by rw [hP]; simp
        have hkA : ∀ x ∈ A ++ B, x.k ≠ (k1, k2) := fun x hx => HN.out x (by rw [hP]; simp at hx ⊢; rcases hx with h | h <;> simp [h])
        have hlA : (A ++ B).length ≤ 100000 := by rw [hP] at hl; simp at hl ⊢; omega
        have HW := Lib.hid (without_any (room := room) H2.out hiA hl)
        have HPE := Lib.hid hP; have HKA := Lib.hid hkA
        clear hP hkA
        unfold refV at HW
        go_wp2_with fail
        refine HW.out.mono ?_
        rintro e w3 ⟨v3, rfl, h3, hb3⟩
        rw [HPE.out, take_mid] at h3
        obtain ⟨a3, c3, hs3, hc3, hr3⟩ := h3
        subst hs3
        have h3 : RefAt w3 (.slice a3 (A ++ B).length c3) (A ++ B) := ⟨a3, c3, rfl, hc3, hr3⟩
        have bc3 := blk_below hb3 (blk_lt BC2.out) BC2.out
        have bk3 := blk_below hb3 (blk_lt BK2.out) BK2.out
        have br3 := blk_below hb3 (blk_lt BR2.out) BR2.out
        have u0 : w3.cell? ⟨cb, 0, none⟩ = some (.int .i64 room) := cell_blk_some bc3 rfl
        have u1 : w3.cell? ⟨cb, 1, none⟩ = some (.slice a P.length c) := cell_blk_some bc3 rfl
        have z0 := free_blk (i := 0) bc3
        have z1 := free_blk (i := 1) bc3
        have hf : Fr (fun y => y = cb) w3 ((w3.setCell ⟨cb, 0, none⟩ (.int .i64 room)).setCell ⟨cb, 1, none⟩ (.slice a3 (A ++ B).length c3)) := ((Fr.refl (fun y => y = cb) w3).setCell ⟨cb, 0, none⟩ rfl _).setCell ⟨cb, 1, none⟩ rfl _
        have bc4 := blk_set (i := 1) (blk_set (i := 0) bc3 (.int .i64 room)) (.slice a3 (A ++ B).length c3)
        have hc2 : w3.cell? ⟨cb, 2, none⟩ = none := by rw [cell_blk bc3]; rfl
        have h4 := h3.off hc2 hf
        have bk4 := (hf.block kb (blk_lt bk3) (Ne.symm hd1)).trans bk3
        have br4 := (hf.block rb (blk_lt br3) (Ne.symm hd2)).trans br3
        have hb4 : Below cb w ((w3.setCell ⟨cb, 0, none⟩ (.int .i64 room)).setCell ⟨cb, 1, none⟩ (.slice a3 (A ++ B).length c3)) := (FB2.out.trans (hb3.mono (by have h1 := FB2.out.size; have h2 := HCB.out; omega))).trans (hf.toBelow (B := cb) (by have h1 := FB2.out.size; have h2 := HCB.out; have h3 := hb3.size; omega) fun y hy => by rw [show y = cb from hy]; exact Nat.le_refl _)
        have BC4 := Lib.hid bc4; have H4 := Lib.hid h4; have BK4 := Lib.hid bk4; have BR4 := Lib.hid br4; have B4 := Lib.hid hb4
        clear bc3 bk3 br3 hf bc4 hc2 h4 bk4 br4 hb4 h3 hb3 HW hc3 hr3 x0 x1
        generalize hLA : (A ++ B).length = nA at H4 BC4 B4 BR4 BK4 ⊢
        go_upto_region 20 with fail
        generalize (w3.setCell ⟨cb, 0, none⟩ (.int .i64 room)).setCell ⟨cb, 1, none⟩ (.slice a3 nA c3) = w4 at H4 BC4 B4 BR4 BK4 ⊢
        have x0 : w4.cell? ⟨cb, 0, none⟩ = some (.int .i64 room) := cell_blk_some BC4.out rfl
        have x1 : w4.cell? ⟨cb, 1, none⟩ = some (.slice a3 nA c3) := cell_blk_some BC4.out rfl
        have y0 : w4.cell? ⟨kb, 0, none⟩ = some (.int .i64 k1) := cell_blk_some BK4.out rfl
        have y1 : w4.cell? ⟨kb, 1, none⟩ = some (.int .i64 k2) := cell_blk_some BK4.out rfl
        have HU := Lib.hid (used_any (room := room) (x := ⟨(k1, k2), d, dy, 0⟩) (R := A ++ B) H4.out hlA (.inl ⟨HKA.out, rfl⟩))
        unfold refV valB at HU
        clear z0 z1 u0 u1
        go_wp2_with fail
        refine HU.out.mono ?_
        rintro e w5 ⟨v5, rfl, h5, hb5⟩
        obtain ⟨a5, c5, hs5, hc5, hr5⟩ := h5
        subst hs5
        have br5 := blk_below hb5 (blk_lt BR4.out) BR4.out
        have hb6 := B4.out.trans (hb5.mono (by have h1 := B4.out.size; have h2 := HCB.out; omega))
        have z0 := free_blk (i := 0) br5
        have z1 := free_blk (i := 1) br5
        have h5 : RefAt w5 (.slice a5 (A ++ B ++ [(⟨(k1, k2), d, dy, 0⟩ : Pb)]).length c5) (A ++ B ++ [(⟨(k1, k2), d, dy, 0⟩ : Pb)]) := ⟨a5, c5, rfl, hc5, hr5⟩
        have H5 := Lib.hid h5; have B6 := Lib.hid hb6; have BR5 := Lib.hid br5
        clear hc5 hr5 br5 hb6 hb5 h5
        have r0 : w5.cell? ⟨rb, 0, none⟩ = some (.int .i64 0) := cell_blk_some BR5.out rfl
        have r1 : w5.cell? ⟨rb, 1, none⟩ = some (.slice none 0 0) := cell_blk_some BR5.out rfl
        generalize hR5 : A ++ B ++ [(⟨(k1, k2), d, dy, 0⟩ : Pb)] = R5 at H5 ⊢
        go_wp2_with fail
        have br6 := blk_set (i := 1) (blk_set (i := 0) BR5.out (.int .i64 room)) (.slice a5 R5.length c5)
        refine bodyPost_ret (results_row_tmp rfl _ _ rb _ _ _ _ rfl br6 Try.underlying52 rfl (by kernel_rfl)) rfl ?_
        have hf : Fr (fun y => y = rb) w5 ((w5.setCell ⟨rb, 0, none⟩ (.int .i64 room)).setCell ⟨rb, 1, none⟩ (.slice a5 R5.length c5)) := ((Fr.refl (fun y => y = rb) w5).setCell ⟨rb, 0, none⟩ rfl _).setCell ⟨rb, 1, none⟩ rfl _
        refine ⟨.slice a5 R5.length c5, rfl, ?_, ?_⟩
        · have hq : w5.cell? ⟨rb, 2, none⟩ = none := by rw [cell_blk BR5.out]; rfl
          subst hR5
          exact H5.out.off hq hf
        · rw [HCB.out]
          have h2 := HCB.out
          have h3 := B6.out.size
          exact B6.out.trans (hf.toBelow (B := cb) (by omega) fun y hy => by rw [show y = rb from hy]; exact hl2)
end Go.Proofs.Ytjldocpjoiibjaa
