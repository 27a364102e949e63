/- Walk of marlref09.Get and New. (Printed by tools/mkref.py.) -/
/- Walk of marlref09.Do and New. (Printed by tools/mkref.py.) -/
import Derived.Test.YtjldocpjoiibjaaC53
namespace Go.Proofs.Ytjldocpjoiibjaa
open Go.RowKit

theorem results_row_tmp2 {P : Program} {fn : Func} {p u q : Tmp} {ty : TypeId} (h : fn.results = #[.cell p ty, .tmp u, .tmp q]) (tmps : Array Value) (w : World) (g : Nat) (t : TypeId) (cs : Array Value) (fr : Nat × Nat) (d : TypeDesc)
    (hp : tmps.getD p undef = .pointer (some ⟨g, 0, none⟩)) (hg : w.heap[g]? = some (.cells cs t fr))
    (hu : P.underlying ty = some d) (hd : (match d with | .struct _ | .array _ _ => true | _ => false) = true) (hi : (P.info? ty).map (·.size) = some cs.size) :
    (results fn tmps).run P w = .ok (.tuple #[.agg cs, tmps.getD u undef, tmps.getD q undef]) w := by
  have e : (results fn tmps).run P w = ((asAddr (tmps.getD p undef)).run P w).andThen fun a w₁ => ((loadVar ty a).run P w₁).andThen fun v w₂ => .ok (.tuple #[v, tmps.getD u undef, tmps.getD q undef]) w₂ := by
    simp only [results, h]
    simp [Sem.run_bind, Result.andThen]
  rw [e, hp]
  simp [asAddr, run_loadVar_row w g t ty cs fr d hg hu hd hi, Result.andThen]
set_option maxHeartbeats 4000000 in
set_option maxRecDepth 100000 in
theorem refGet_miss {w : World} {v : Value} {P : List Pb} {room : Int} {k : Int × Int} (h : RefAt w v P) (hl : P.length ≤ 100000) (hn : ∀ b ∈ P, b.k ≠ k) :
    Calls Try.prog 21 #[refV room v, keyV k] w fun e w' => e = .returned (.tuple #[refV room v, .string ⟨#[]⟩, .bool false]) ∧ Below w.heap.size w w' := by
  have hfd : ∀ w, RefAt w v P → Calls Try.prog 40 #[refV room v, keyV k] w fun e w' => e = .returned (.int .i64 (-1)) ∧ Below w.heap.size w w' := fun w h => find_miss h hl hn
  clear hn
  have hsh : ∃ a c, v = .slice a P.length c := by obtain ⟨a, c, he, _⟩ := h; exact ⟨a, c, he⟩
  obtain ⟨a, c, rfl⟩ := hsh
  have H := Lib.hid h
  clear h
  obtain ⟨k1, k2⟩ := k
  have HFD := Lib.hid hfd
  clear hfd
  unfold refV keyV
  unfold refV keyV at HFD
  go_enter Try.func21, Try.ntmps21
  go_wp2_with fail
  obtain ⟨w1, hw1⟩ : ∃ w1, w1 = ((w.alloc (.cells #[.int .i64 room, .slice a P.length c] 52)).alloc (.cells #[.int .i64 k1, .int .i64 k2] 55)).alloc (.cells #[.int .i64 0, .slice none 0 0] 52) := ⟨_, rfl⟩
  have bc : w1.heap[w.heap.size]? = some (.cells #[.int .i64 room, .slice a P.length c] 52 (0, 0)) := by rw [hw1]; exact blk_old (blk_old (blk_new rfl))
  have bk : w1.heap[w.heap.size + 1]? = some (.cells #[.int .i64 k1, .int .i64 k2] 55 (0, 0)) := by rw [hw1]; exact blk_old (blk_new (by simp))
  have br : w1.heap[w.heap.size + 1 + 1]? = some (.cells #[.int .i64 0, .slice none 0 0] 52 (0, 0)) := by rw [hw1]; exact blk_new (by simp)
  have hb1 : Below w.heap.size w w1 := by rw [hw1]; exact below_alloc (below_alloc (below_alloc (Below.refl _ w) (Nat.le_refl _) _) (Nat.le_refl _) _) (Nat.le_refl _) _
  rw [← hw1]
  clear hw1
  have hd1 : w.heap.size ≠ w.heap.size + 1 := by omega
  have hd2 : w.heap.size ≠ w.heap.size + 1 + 1 := by omega
  have hd3 : w.heap.size + 1 ≠ w.heap.size + 1 + 1 := by omega
  have hl1 : w.heap.size ≤ w.heap.size + 1 := by omega
  have hl2 : w.heap.size ≤ w.heap.size + 1 + 1 := by omega
  generalize w.heap.size + 1 + 1 = rb at br hd2 hd3 hl2 ⊢
  generalize w.heap.size + 1 = kb at bk hd1 hd3 hl1 ⊢
  generalize hcb : w.heap.size = cb at bc hb1 hd1 hd2 hl1 hl2 ⊢
  have H1 := Lib.hid (H.out.below (by rw [hcb]; exact hb1))
  have HCB := Lib.hid hcb
  clear hcb
  refine (HFD.out _ H1.out).mono ?_
  rintro e w2 ⟨rfl, hb2⟩
  have bc2 := blk_below hb2 (blk_lt bc) bc
  have bk2 := blk_below hb2 (blk_lt bk) bk
  have br2 := blk_below hb2 (blk_lt br) br
  have H2 := Lib.hid (H1.out.below hb2)
  have FB2 := Lib.hid (hb1.trans (hb2.mono (by have h1 := hb1.size; have h2 := HCB.out; omega)))
  clear bc bk br hb1 hb2 HFD H H1
  have BC2 := Lib.hid bc2; have BK2 := Lib.hid bk2; have BR2 := Lib.hid br2
  clear bc2 bk2 br2
  have r0 : w2.cell? ⟨rb, 0, none⟩ = some (.int .i64 0) := cell_blk_some BR2.out rfl
  have r1 : w2.cell? ⟨rb, 1, none⟩ = some (.slice none 0 0) := cell_blk_some BR2.out rfl
  have z0 := free_blk (i := 0) BR2.out
  have z1 := free_blk (i := 1) BR2.out
  have x0 : w2.cell? ⟨cb, 0, none⟩ = some (.int .i64 room) := cell_blk_some BC2.out rfl
  have x1 : w2.cell? ⟨cb, 1, none⟩ = some (.slice a P.length c) := cell_blk_some BC2.out rfl
  go_wp2_with fail
  have br6 := blk_set (i := 1) (blk_set (i := 0) BR2.out (.int .i64 room)) (.slice a P.length c)
  refine bodyPost_ret (results_row_tmp2 rfl _ _ rb _ _ _ _ rfl br6 Try.underlying52 rfl (by kernel_rfl)) rfl ?_
  have hf : Fr (fun y => y = rb) w2 ((w2.setCell ⟨rb, 0, none⟩ (.int .i64 room)).setCell ⟨rb, 1, none⟩ (.slice a P.length c)) := ((Fr.refl (fun y => y = rb) w2).setCell ⟨rb, 0, none⟩ rfl _).setCell ⟨rb, 1, none⟩ rfl _
  have hbe : Below w.heap.size w ((w2.setCell ⟨rb, 0, none⟩ (.int .i64 room)).setCell ⟨rb, 1, none⟩ (.slice a P.length c)) := by
    rw [HCB.out]
    have h2 := HCB.out
    have h3 := FB2.out.size
    exact FB2.out.trans (hf.toBelow (B := cb) (by omega) fun y hy => by rw [show y = rb from hy]; exact hl2)
  exact ⟨rfl, hbe⟩
set_option maxHeartbeats 4000000 in
set_option maxRecDepth 100000 in
theorem refGet_hit {w : World} {v : Value} {P A B : List Pb} {b : Pb} {room : Int} {k : Int × Int} (h : RefAt w v P) (hl : P.length ≤ 100000) (hP : P = A ++ b :: B) (hn : (P.map (·.k)).Nodup) (hk : b.k = k) :
    Calls Try.prog 21 #[refV room v, keyV k] w fun e w' => ∃ v', e = .returned (.tuple #[refV room v', .string (strD b.data), .bool true]) ∧ RefAt w' v' (A ++ B ++ [b]) ∧ Below w.heap.size w w' := by
  have hfd : ∀ w, RefAt w v P → Calls Try.prog 40 #[refV room v, keyV k] w fun e w' => e = .returned (.int .i64 (A.length : Int)) ∧ Below w.heap.size w w' := fun w h => by
    rw [← hk]; rw [hP] at h hl hn; exact find_hit h hl hn
  have HP := Lib.hid hP; have HN := Lib.hid hn; have HK := Lib.hid hk
  have hip : A.length < P.length := by rw [hP]; simp
  have q0 : decide ((A.length : Int) < 0) = false := decide_eq_false (by omega)
  clear hP hn hk
  have hsh : ∃ a c, v = .slice a P.length c := by obtain ⟨a, c, he, _⟩ := h; exact ⟨a, c, he⟩
  obtain ⟨a, c, rfl⟩ := hsh
  have H := Lib.hid h
  clear h
  obtain ⟨k1, k2⟩ := k
  have HFD := Lib.hid hfd
  clear hfd
  unfold refV keyV
  unfold refV keyV at HFD
  go_enter Try.func21, Try.ntmps21
  go_wp2_with fail
  obtain ⟨w1, hw1⟩ : ∃ w1, w1 = ((w.alloc (.cells #[.int .i64 room, .slice a P.length c] 52)).alloc (.cells #[.int .i64 k1, .int .i64 k2] 55)).alloc (.cells #[.int .i64 0, .slice none 0 0] 52) := ⟨_, rfl⟩
  have bc : w1.heap[w.heap.size]? = some (.cells #[.int .i64 room, .slice a P.length c] 52 (0, 0)) := by rw [hw1]; exact blk_old (blk_old (blk_new rfl))
  have bk : w1.heap[w.heap.size + 1]? = some (.cells #[.int .i64 k1, .int .i64 k2] 55 (0, 0)) := by rw [hw1]; exact blk_old (blk_new (by simp))
  have br : w1.heap[w.heap.size + 1 + 1]? = some (.cells #[.int .i64 0, .slice none 0 0] 52 (0, 0)) := by rw [hw1]; exact blk_new (by simp)
  have hb1 : Below w.heap.size w w1 := by rw [hw1]; exact below_alloc (below_alloc (below_alloc (Below.refl _ w) (Nat.le_refl _) _) (Nat.le_refl _) _) (Nat.le_refl _) _
  rw [← hw1]
  clear hw1
  have hd1 : w.heap.size ≠ w.heap.size + 1 := by omega
  have hd2 : w.heap.size ≠ w.heap.size + 1 + 1 := by omega
  have hd3 : w.heap.size + 1 ≠ w.heap.size + 1 + 1 := by omega
  have hl1 : w.heap.size ≤ w.heap.size + 1 := by omega
  have hl2 : w.heap.size ≤ w.heap.size + 1 + 1 := by omega
  generalize w.heap.size + 1 + 1 = rb at br hd2 hd3 hl2 ⊢
  generalize w.heap.size + 1 = kb at bk hd1 hd3 hl1 ⊢
  generalize hcb : w.heap.size = cb at bc hb1 hd1 hd2 hl1 hl2 ⊢
  have H1 := Lib.hid (H.out.below (by rw [hcb]; exact hb1))
  have HCB := Lib.hid hcb
  clear hcb
  refine (HFD.out _ H1.out).mono ?_
  rintro e w2 ⟨rfl, hb2⟩
  have bc2 := blk_below hb2 (blk_lt bc) bc
  have bk2 := blk_below hb2 (blk_lt bk) bk
  have br2 := blk_below hb2 (blk_lt br) br
  have H2 := Lib.hid (H1.out.below hb2)
  have FB2 := Lib.hid (hb1.trans (hb2.mono (by have h1 := hb1.size; have h2 := HCB.out; omega)))
  clear bc bk br hb1 hb2 HFD H H1
  have BC2 := Lib.hid bc2; have BK2 := Lib.hid bk2; have BR2 := Lib.hid br2
  clear bc2 bk2 br2
  obtain ⟨a', c', he, hcap, hrow⟩ := H2.out
  obtain ⟨rfl, -, rfl⟩ := Value.slice.inj he
  obtain ⟨g, rfl, hg⟩ := hrow (by omega)
  have hb : P[A.length]? = some b := by rw [HP.out]; simp
  have HU := Lib.hid (fun (w : World) (h : RefAt w (.slice (some ⟨g, 0, none⟩) P.length c) P) => used_any (w := w) (room := room) (x := b) (R := A ++ B) h hl (.inr ⟨A, _, B, HP.out, rfl, rfl, HN.out⟩))
  obtain ⟨⟨bk1, bk2⟩, bd, bdy, bp⟩ := b
  have m1 : (A.length : Int) < (P.length : Int) := by omega
  have m2 : (0 : Int) ≤ (A.length : Int) := by omega
  have HB := Lib.hid hb; have HG := Lib.hid hg
  clear he hrow hg hb
  unfold refV valB at HU
  go_upto_region 4 with fail
  have HD := Lib.hid (show RefAt w2.drew (.slice (some ⟨g, 0, none⟩) P.length c) P from H2.out.below ⟨rfl, rfl, rfl, Nat.le_refl _, fun _ _ => rfl⟩)
  have GD : BufRow w2.drew g P := HG.out.same rfl (Nat.le_refl _)
  have d0 := GD.c0 _ _ HB.out
  have d1 := GD.c1 _ _ HB.out
  have d2 := GD.c2 _ _ HB.out
  have d3 := GD.c3 _ _ HB.out
  have d4 := GD.c4 _ _ HB.out
  have bcD : w2.drew.heap[cb]? = some (.cells #[.int .i64 room, .slice (some ⟨g, 0, none⟩) P.length c] 52 (0, 0)) := BC2.out
  have brD : w2.drew.heap[rb]? = some (.cells #[.int .i64 0, .slice none 0 0] 52 (0, 0)) := BR2.out
  have hbD : Below cb w w2.drew := ⟨FB2.out.os, FB2.out.tape, FB2.out.output, FB2.out.size, FB2.out.block⟩
  have x0 : w2.drew.cell? ⟨cb, 0, none⟩ = some (.int .i64 room) := cell_blk_some bcD rfl
  have x1 : w2.drew.cell? ⟨cb, 1, none⟩ = some (.slice (some ⟨g, 0, none⟩) P.length c) := cell_blk_some bcD rfl
  have hgl := GD.lt
  have BCD := Lib.hid bcD; have BRD := Lib.hid brD; have BD := Lib.hid hbD
  simp only at d0 d1 d2 d3 d4
  have D2 := Lib.hid d2
  clear GD bcD brD hbD H2 BC2 BR2 BK2 FB2 HG HB
  have hgr : rb ≠ g := fun e => by
    have := D2.out
    rw [← e, cell_blk BRD.out] at this
    simp at this
  have hS : (fun w' => (w'.cell? ⟨cb, 0, none⟩ = some (.int .i64 room) ∧ w'.cell? ⟨cb, 1, none⟩ = some (.slice (some ⟨g, 0, none⟩) P.length c)) ∧ w'.cell? ⟨g, A.length * 5, none⟩ = some (.int .i64 bk1) ∧ w'.cell? ⟨g, A.length * 5 + 1, none⟩ = some (.int .i64 bk2) ∧ w'.cell? ⟨g, A.length * 5 + 2, none⟩ = some (.string (strD bd)) ∧ w'.cell? ⟨g, A.length * 5 + 3, none⟩ = some (.bool bdy) ∧ w'.cell? ⟨g, A.length * 5 + 4, none⟩ = some (.int .i64 bp)) w2.drew := ⟨⟨x0, x1⟩, d0, d1, d2, d3, d4⟩
  have KK := Lib.hid (fun (w' : World) (i : Nat) (u : Value) (h : (fun w' => (w'.cell? ⟨cb, 0, none⟩ = some (.int .i64 room) ∧ w'.cell? ⟨cb, 1, none⟩ = some (.slice (some ⟨g, 0, none⟩) P.length c)) ∧ w'.cell? ⟨g, A.length * 5, none⟩ = some (.int .i64 bk1) ∧ w'.cell? ⟨g, A.length * 5 + 1, none⟩ = some (.int .i64 bk2) ∧ w'.cell? ⟨g, A.length * 5 + 2, none⟩ = some (.string (strD bd)) ∧ w'.cell? ⟨g, A.length * 5 + 3, none⟩ = some (.bool bdy) ∧ w'.cell? ⟨g, A.length * 5 + 4, none⟩ = some (.int .i64 bp)) w') => show (fun w' => (w'.cell? ⟨cb, 0, none⟩ = some (.int .i64 room) ∧ w'.cell? ⟨cb, 1, none⟩ = some (.slice (some ⟨g, 0, none⟩) P.length c)) ∧ w'.cell? ⟨g, A.length * 5, none⟩ = some (.int .i64 bk1) ∧ w'.cell? ⟨g, A.length * 5 + 1, none⟩ = some (.int .i64 bk2) ∧ w'.cell? ⟨g, A.length * 5 + 2, none⟩ = some (.string (strD bd)) ∧ w'.cell? ⟨g, A.length * 5 + 3, none⟩ = some (.bool bdy) ∧ w'.cell? ⟨g, A.length * 5 + 4, none⟩ = some (.int .i64 bp)) (w'.setCell ⟨rb, i, none⟩ u) from
    ⟨⟨(World.cell?_setCell_far _ _ _ _ (Ne.symm hd2)).trans h.1.1, (World.cell?_setCell_far _ _ _ _ (Ne.symm hd2)).trans h.1.2⟩, (World.cell?_setCell_far _ _ _ _ hgr).trans h.2.1, (World.cell?_setCell_far _ _ _ _ hgr).trans h.2.2.1, (World.cell?_setCell_far _ _ _ _ hgr).trans h.2.2.2.1, (World.cell?_setCell_far _ _ _ _ hgr).trans h.2.2.2.2.1, (World.cell?_setCell_far _ _ _ _ hgr).trans h.2.2.2.2.2⟩)
  clear x0 x1 d0 d1 d2 d3 d4
  have x0 := hS.1.1; have x1 := hS.1.2
  dsimp only at hS
  go_region_held3 (fun w' => (w'.cell? ⟨cb, 0, none⟩ = some (.int .i64 room) ∧ w'.cell? ⟨cb, 1, none⟩ = some (.slice (some ⟨g, 0, none⟩) P.length c)) ∧ w'.cell? ⟨g, A.length * 5, none⟩ = some (.int .i64 bk1) ∧ w'.cell? ⟨g, A.length * 5 + 1, none⟩ = some (.int .i64 bk2) ∧ w'.cell? ⟨g, A.length * 5 + 2, none⟩ = some (.string (strD bd)) ∧ w'.cell? ⟨g, A.length * 5 + 3, none⟩ = some (.bool bdy) ∧ w'.cell? ⟨g, A.length * 5 + 4, none⟩ = some (.int .i64 bp))
    (first | assumption | exact KK.out _ _ _ (by assumption) | exact KK.out _ _ _ (KK.out _ _ _ (by assumption)))
    (first
      | (go_at_call 41
         refine (HU.out _ HD.out).mono ?_
         rintro e w5 ⟨v5, rfl, h5, hb5⟩
         obtain ⟨a5, c5, hs5, hc5, hr5⟩ := h5
         subst hs5
         have hS5 : (fun w' => (w'.cell? ⟨cb, 0, none⟩ = some (.int .i64 room) ∧ w'.cell? ⟨cb, 1, none⟩ = some (.slice (some ⟨g, 0, none⟩) P.length c)) ∧ w'.cell? ⟨g, A.length * 5, none⟩ = some (.int .i64 bk1) ∧ w'.cell? ⟨g, A.length * 5 + 1, none⟩ = some (.int .i64 bk2) ∧ w'.cell? ⟨g, A.length * 5 + 2, none⟩ = some (.string (strD bd)) ∧ w'.cell? ⟨g, A.length * 5 + 3, none⟩ = some (.bool bdy) ∧ w'.cell? ⟨g, A.length * 5 + 4, none⟩ = some (.int .i64 bp)) w5 := ⟨⟨(World.cell?_of_block (w := w2.drew) (a := ⟨cb, 0, none⟩) (hb5.block cb (blk_lt BCD.out))).trans hS.1.1, (World.cell?_of_block (w := w2.drew) (a := ⟨cb, 1, none⟩) (hb5.block cb (blk_lt BCD.out))).trans hS.1.2⟩, (World.cell?_of_block (w := w2.drew) (a := ⟨g, A.length * 5, none⟩) (hb5.block g hgl)).trans hS.2.1, (World.cell?_of_block (w := w2.drew) (a := ⟨g, A.length * 5 + 1, none⟩) (hb5.block g hgl)).trans hS.2.2.1, (World.cell?_of_block (w := w2.drew) (a := ⟨g, A.length * 5 + 2, none⟩) (hb5.block g hgl)).trans hS.2.2.2.1, (World.cell?_of_block (w := w2.drew) (a := ⟨g, A.length * 5 + 3, none⟩) (hb5.block g hgl)).trans hS.2.2.2.2.1, (World.cell?_of_block (w := w2.drew) (a := ⟨g, A.length * 5 + 4, none⟩) (hb5.block g hgl)).trans hS.2.2.2.2.2⟩
         dsimp only at hS5
         have br5 := blk_below hb5 (blk_lt BRD.out) BRD.out
         have hb6 := BD.out.trans (hb5.mono (by have h1 := BD.out.size; have h2 := HCB.out; omega))
         have z0 := free_blk (i := 0) br5
         have z1 := free_blk (i := 1) br5
         have r0 : w5.cell? ⟨rb, 0, none⟩ = some (.int .i64 0) := cell_blk_some br5 rfl
         have r1 : w5.cell? ⟨rb, 1, none⟩ = some (.slice none 0 0) := cell_blk_some br5 rfl
         have H5 : Hid (RefAt w5 (.slice a5 (A ++ B ++ [(⟨(bk1, bk2), bd, bdy, bp⟩ : Pb)]).length c5) (A ++ B ++ [(⟨(bk1, bk2), bd, bdy, bp⟩ : Pb)])) := Lib.hid ⟨a5, c5, rfl, hc5, hr5⟩
         have B6 := Lib.hid hb6; have BR5 := Lib.hid br5
         clear hc5 hr5 br5 hb6 hb5
         generalize hn5 : (A ++ B ++ [(⟨(bk1, bk2), bd, bdy, bp⟩ : Pb)]).length = n5 at H5 ⊢
         dsimp only))
  all_goals
    clear hS hS5 x0 x1 z0 z1 r0 r1 D2 HU HD
    go_wp2_with fail
    have br6 := blk_set (i := 1) (blk_set (i := 0) BR5.out (.int .i64 room)) (.slice a5 n5 c5)
    refine bodyPost_ret (results_row_tmp2 rfl _ _ rb _ _ _ _ rfl br6 Try.underlying52 rfl (by kernel_rfl)) rfl ?_
    have hf : Fr (fun y => y = rb) w5 ((w5.setCell ⟨rb, 0, none⟩ (.int .i64 room)).setCell ⟨rb, 1, none⟩ (.slice a5 n5 c5)) := ((Fr.refl (fun y => y = rb) w5).setCell ⟨rb, 0, none⟩ rfl _).setCell ⟨rb, 1, none⟩ rfl _
    refine ⟨.slice a5 n5 c5, rfl, ?_, ?_⟩
    · have hq : w5.cell? ⟨rb, 2, none⟩ = none := by rw [cell_blk BR5.out]; rfl
      have h9 := H5.out.off hq hf
      rw [List.append_assoc] at h9
      exact h9
    · rw [HCB.out]
      have h2 := HCB.out
      have h3 := B6.out.size
      exact B6.out.trans (hf.toBelow (B := cb) (by omega) fun y hy => by rw [show y = rb from hy]; exact hl2)
end Go.Proofs.Ytjldocpjoiibjaa

namespace Go.Proofs.Ytjldocpjoiibjaa
open Go.RowKit

theorem cell_set {w : World} {g p : Nat} {u : Value} (h : (w.cell? ⟨g, p, none⟩).isSome = true) (q : Nat) : (w.setCell ⟨g, p, none⟩ u).cell? ⟨g, q, none⟩ = if q = p then some u else w.cell? ⟨g, q, none⟩ := by
  split
  · rename_i e
    rw [e]
    exact World.cell?_setCell_same' _ _ _ h
  · rename_i e
    exact World.cell?_setCell_other _ _ _ _ (fun h => e (by injection h with _ h2 _; exact h2.symm))
def set5 (w : World) (g i : Nat) (b : Pb) : World :=
  ((((w.setCell ⟨g, i * 5, none⟩ (.int .i64 b.k.1)).setCell ⟨g, i * 5 + 1, none⟩ (.int .i64 b.k.2)).setCell ⟨g, i * 5 + 2, none⟩ (.string (strD b.data))).setCell ⟨g, i * 5 + 3, none⟩ (.bool b.dirty)).setCell ⟨g, i * 5 + 4, none⟩ (.int .i64 b.pins)
theorem set5_cell {w : World} {g i : Nat} {b : Pb} {P : List Pb} (h : BufRow w g P) (hi : i < P.length) (q : Nat) : (set5 w g i b).cell? ⟨g, q, none⟩ =
    if q = i * 5 + 4 then some (.int .i64 b.pins) else if q = i * 5 + 3 then some (.bool b.dirty) else if q = i * 5 + 2 then some (.string (strD b.data)) else if q = i * 5 + 1 then some (.int .i64 b.k.2) else if q = i * 5 then some (.int .i64 b.k.1) else w.cell? ⟨g, q, none⟩ := by
  have hb := List.getElem?_eq_getElem hi
  have e0 := h.c0 i _ hb
  have e1 := h.c1 i _ hb
  have e2 := h.c2 i _ hb
  have e3 := h.c3 i _ hb
  have e4 := h.c4 i _ hb
  unfold set5
  have n1 : i * 5 + 1 ≠ i * 5 := by omega
  have n2 : i * 5 + 2 ≠ i * 5 := by omega
  have n3 : i * 5 + 2 ≠ i * 5 + 1 := by omega
  have n4 : i * 5 + 3 ≠ i * 5 := by omega
  have n5 : i * 5 + 3 ≠ i * 5 + 1 := by omega
  have n6 : i * 5 + 3 ≠ i * 5 + 2 := by omega
  have n7 : i * 5 + 4 ≠ i * 5 := by omega
  have n8 : i * 5 + 4 ≠ i * 5 + 1 := by omega
  have n9 : i * 5 + 4 ≠ i * 5 + 2 := by omega
  have n10 : i * 5 + 4 ≠ i * 5 + 3 := by omega
  have f0 : (w.cell? ⟨g, i * 5, none⟩).isSome = true := by rw [e0]; rfl
  have f1 : ((w.setCell ⟨g, i * 5, none⟩ (.int .i64 b.k.1)).cell? ⟨g, i * 5 + 1, none⟩).isSome = true := by rw [cell_set f0, if_neg n1, e1]; rfl
  have f2 : (((w.setCell ⟨g, i * 5, none⟩ (.int .i64 b.k.1)).setCell ⟨g, i * 5 + 1, none⟩ (.int .i64 b.k.2)).cell? ⟨g, i * 5 + 2, none⟩).isSome = true := by rw [cell_set f1, if_neg n3, cell_set f0, if_neg n2, e2]; rfl
  have f3 : ((((w.setCell ⟨g, i * 5, none⟩ (.int .i64 b.k.1)).setCell ⟨g, i * 5 + 1, none⟩ (.int .i64 b.k.2)).setCell ⟨g, i * 5 + 2, none⟩ (.string (strD b.data))).cell? ⟨g, i * 5 + 3, none⟩).isSome = true := by rw [cell_set f2, if_neg n6, cell_set f1, if_neg n5, cell_set f0, if_neg n4, e3]; rfl
  have f4 : (((((w.setCell ⟨g, i * 5, none⟩ (.int .i64 b.k.1)).setCell ⟨g, i * 5 + 1, none⟩ (.int .i64 b.k.2)).setCell ⟨g, i * 5 + 2, none⟩ (.string (strD b.data))).setCell ⟨g, i * 5 + 3, none⟩ (.bool b.dirty)).cell? ⟨g, i * 5 + 4, none⟩).isSome = true := by rw [cell_set f3, if_neg n10, cell_set f2, if_neg n9, cell_set f1, if_neg n8, cell_set f0, if_neg n7, e4]; rfl
  rw [cell_set f4, cell_set f3, cell_set f2, cell_set f1, cell_set f0]
theorem set5_size (w : World) (g i : Nat) (b : Pb) : (set5 w g i b).heap.size = w.heap.size := by unfold set5; simp
theorem set5_tag {w : World} {g i : Nat} {b : Pb} (h : ∃ cur z, w.heap[g]? = some (.cells cur 86 z)) : ∃ cur z, (set5 w g i b).heap[g]? = some (.cells cur 86 z) := by
  obtain ⟨cur, z, h⟩ := h
  exact ⟨_, z, blk_set (blk_set (blk_set (blk_set (blk_set h _) _) _) _) _⟩
theorem BufRow.put {w : World} {g i : Nat} {b : Pb} {P : List Pb} (h : BufRow w g P) (hi : i < P.length) : BufRow (set5 w g i b) g (P.set i b) := by
  have key := set5_cell (b := b) h hi
  have hx : ∀ (j : Nat) x, (P.set i b)[j]? = some x → (j = i ∧ x = b) ∨ (j ≠ i ∧ P[j]? = some x) := fun j x hj => by
    by_cases e : j = i
    · subst e
      rw [List.getElem?_set_self hi] at hj
      exact .inl ⟨rfl, (Option.some.inj hj).symm⟩
    · rw [List.getElem?_set_ne (Ne.symm e)] at hj
      exact .inr ⟨e, hj⟩
  refine ⟨fun j x hj => ?_, fun j x hj => ?_, fun j x hj => ?_, fun j x hj => ?_, fun j x hj => ?_, by rw [set5_size]; exact h.lt, set5_tag h.tag⟩
  all_goals rcases hx j x hj with ⟨rfl, rfl⟩ | ⟨hne, hj'⟩
  · rw [key, if_neg (by omega), if_neg (by omega), if_neg (by omega), if_neg (by omega), if_pos rfl]
  · rw [key, if_neg (by omega), if_neg (by omega), if_neg (by omega), if_neg (by omega), if_neg (by omega)]; exact h.c0 j x hj'
  · rw [key, if_neg (by omega), if_neg (by omega), if_neg (by omega), if_pos rfl]
  · rw [key, if_neg (by omega), if_neg (by omega), if_neg (by omega), if_neg (by omega), if_neg (by omega)]; exact h.c1 j x hj'
  · rw [key, if_neg (by omega), if_neg (by omega), if_pos rfl]
  · rw [key, if_neg (by omega), if_neg (by omega), if_neg (by omega), if_neg (by omega), if_neg (by omega)]; exact h.c2 j x hj'
  · rw [key, if_neg (by omega), if_pos rfl]
  · rw [key, if_neg (by omega), if_neg (by omega), if_neg (by omega), if_neg (by omega), if_neg (by omega)]; exact h.c3 j x hj'
  · rw [key, if_pos rfl]
  · rw [key, if_neg (by omega), if_neg (by omega), if_neg (by omega), if_neg (by omega), if_neg (by omega)]; exact h.c4 j x hj'
theorem Fr.set5 {S : Nat → Prop} {w0 w : World} (h : Fr S w0 w) {g i : Nat} (hg : S g) (b : Pb) : Fr S w0 (set5 w g i b) :=
  ((((h.setCell ⟨g, i * 5, none⟩ hg _).setCell ⟨g, i * 5 + 1, none⟩ hg _).setCell ⟨g, i * 5 + 2, none⟩ hg _).setCell ⟨g, i * 5 + 3, none⟩ hg _).setCell ⟨g, i * 5 + 4, none⟩ hg _
theorem set_mid (A B : List Pb) (b b' : Pb) : (A ++ b :: B).set A.length b' = A ++ b' :: B := by simp
theorem own_blk {w : World} {B n : Nat} {v : Value} {P : List Pb} (h : w.ownsRow B 86 5 v n (flatB P)) (h0 : 0 < n) : ∃ g cap cur, v = .slice (some ⟨g, 0, none⟩) n cap ∧ B ≤ g ∧ n ≤ cap ∧ w.heap[g]? = some (.cells cur 86 (0, 0)) ∧ BufRow w g P := by
  obtain ⟨⟨a', c', he, hc', hrow⟩, hl⟩ := buf_own h
  obtain ⟨g, rfl, hg⟩ := hrow (by omega)
  rcases h.2 with ⟨rfl, hz⟩ | ⟨g2, cap, cur, rfl, hb, hg2, hc, _, hs, ht⟩
  · omega
  · have e := Value.slice.inj he
    obtain ⟨e1, e2, e3⟩ := e
    have : g2 = g := by injection e1 with e1; injection e1
    subst this
    exact ⟨g2, cap, cur, rfl, hb, hc, hg2, hg⟩
set_option maxHeartbeats 4000000 in
set_option maxRecDepth 100000 in
theorem refDo_miss {w : World} {v : Value} {P : List Pb} {room kind : Int} {k : Int × Int} (h : RefAt w v P) (hl : P.length ≤ 100000) (hn : ∀ b ∈ P, b.k ≠ k) :
    Calls Try.prog 22 #[refV room v, .int .i64 kind, keyV k] w fun e w' => e = .returned (.tuple #[refV room v, .int .i64 2]) ∧ Below w.heap.size w w' := by
  have hfd : ∀ w, RefAt w v P → Calls Try.prog 40 #[refV room v, keyV k] w fun e w' => e = .returned (.int .i64 (-1)) ∧ Below w.heap.size w w' := fun w h => find_miss h hl hn
  clear hn
  have hsh : ∃ a c, v = .slice a P.length c := by obtain ⟨a, c, he, _⟩ := h; exact ⟨a, c, he⟩
  obtain ⟨a, c, rfl⟩ := hsh
  have H := Lib.hid h
  clear h
  obtain ⟨k1, k2⟩ := k
  have HFD := Lib.hid hfd
  clear hfd
  unfold refV keyV
  unfold refV keyV at HFD
  go_enter Try.func22, Try.ntmps22
  go_wp2_with fail
  obtain ⟨w1, hw1⟩ : ∃ w1, w1 = ((w.alloc (.cells #[.int .i64 room, .slice a P.length c] 52)).alloc (.cells #[.int .i64 k1, .int .i64 k2] 55)).alloc (.cells #[.int .i64 0, .slice none 0 0] 52) := ⟨_, rfl⟩
  have bc : w1.heap[w.heap.size]? = some (.cells #[.int .i64 room, .slice a P.length c] 52 (0, 0)) := by rw [hw1]; exact blk_old (blk_old (blk_new rfl))
  have bk : w1.heap[w.heap.size + 1]? = some (.cells #[.int .i64 k1, .int .i64 k2] 55 (0, 0)) := by rw [hw1]; exact blk_old (blk_new (by simp))
  have br : w1.heap[w.heap.size + 1 + 1]? = some (.cells #[.int .i64 0, .slice none 0 0] 52 (0, 0)) := by rw [hw1]; exact blk_new (by simp)
  have hb1 : Below w.heap.size w w1 := by rw [hw1]; exact below_alloc (below_alloc (below_alloc (Below.refl _ w) (Nat.le_refl _) _) (Nat.le_refl _) _) (Nat.le_refl _) _
  rw [← hw1]
  clear hw1
  have hd1 : w.heap.size ≠ w.heap.size + 1 := by omega
  have hd2 : w.heap.size ≠ w.heap.size + 1 + 1 := by omega
  have hd3 : w.heap.size + 1 ≠ w.heap.size + 1 + 1 := by omega
  have hl1 : w.heap.size ≤ w.heap.size + 1 := by omega
  have hl2 : w.heap.size ≤ w.heap.size + 1 + 1 := by omega
  generalize w.heap.size + 1 + 1 = rb at br hd2 hd3 hl2 ⊢
  generalize w.heap.size + 1 = kb at bk hd1 hd3 hl1 ⊢
  generalize hcb : w.heap.size = cb at bc hb1 hd1 hd2 hl1 hl2 ⊢
  have H1 := Lib.hid (H.out.below (by rw [hcb]; exact hb1))
  have HCB := Lib.hid hcb
  clear hcb
  refine (HFD.out _ H1.out).mono ?_
  rintro e w2 ⟨rfl, hb2⟩
  have bc2 := blk_below hb2 (blk_lt bc) bc
  have bk2 := blk_below hb2 (blk_lt bk) bk
  have br2 := blk_below hb2 (blk_lt br) br
  have H2 := Lib.hid (H1.out.below hb2)
  have FB2 := Lib.hid (hb1.trans (hb2.mono (by have h1 := hb1.size; have h2 := HCB.out; omega)))
  clear bc bk br hb1 hb2 HFD H H1
  have BC2 := Lib.hid bc2; have BK2 := Lib.hid bk2; have BR2 := Lib.hid br2
  clear bc2 bk2 br2
  have r0 : w2.cell? ⟨rb, 0, none⟩ = some (.int .i64 0) := cell_blk_some BR2.out rfl
  have r1 : w2.cell? ⟨rb, 1, none⟩ = some (.slice none 0 0) := cell_blk_some BR2.out rfl
  have z0 := free_blk (i := 0) BR2.out
  have z1 := free_blk (i := 1) BR2.out
  have x0 : w2.cell? ⟨cb, 0, none⟩ = some (.int .i64 room) := cell_blk_some BC2.out rfl
  have x1 : w2.cell? ⟨cb, 1, none⟩ = some (.slice a P.length c) := cell_blk_some BC2.out rfl
  go_wp2_with fail
  have br6 := blk_set (i := 1) (blk_set (i := 0) BR2.out (.int .i64 room)) (.slice a P.length c)
  refine bodyPost_ret (results_row_tmp rfl _ _ rb _ _ _ _ rfl br6 Try.underlying52 rfl (by kernel_rfl)) rfl ?_
  have hf : Fr (fun y => y = rb) w2 ((w2.setCell ⟨rb, 0, none⟩ (.int .i64 room)).setCell ⟨rb, 1, none⟩ (.slice a P.length c)) := ((Fr.refl (fun y => y = rb) w2).setCell ⟨rb, 0, none⟩ rfl _).setCell ⟨rb, 1, none⟩ rfl _
  have hbe : Below w.heap.size w ((w2.setCell ⟨rb, 0, none⟩ (.int .i64 room)).setCell ⟨rb, 1, none⟩ (.slice a P.length c)) := by
    rw [HCB.out]
    have h2 := HCB.out
    have h3 := FB2.out.size
    exact FB2.out.trans (hf.toBelow (B := cb) (by omega) fun y hy => by rw [show y = rb from hy]; exact hl2)
  exact ⟨rfl, hbe⟩
set_option maxHeartbeats 4000000 in
set_option maxRecDepth 100000 in
theorem refDo_clean {w : World} {v : Value} {P A B : List Pb} {b : Pb} {room : Int} {k : Int × Int} (h : RefAt w v P) (hl : P.length ≤ 100000) (hP : P = A ++ b :: B) (hn : (P.map (·.k)).Nodup) (hk : b.k = k)  :
    Calls Try.prog 22 #[refV room v, .int .i64 3, keyV k] w fun e w' => ∃ v', e = .returned (.tuple #[refV room v', .int .i64 0]) ∧ RefAt w' v' (A ++ { b with dirty := false } :: B) ∧ Below w.heap.size w w' := by
  have hfd : ∀ w, RefAt w v P → Calls Try.prog 40 #[refV room v, keyV k] w fun e w' => e = .returned (.int .i64 (A.length : Int)) ∧ Below w.heap.size w w' := fun w h => by
    rw [← hk]; rw [hP] at h hl hn; exact find_hit h hl hn
  have HP := Lib.hid hP; have HN := Lib.hid hn; have HK := Lib.hid hk
  have hip : A.length < P.length := by rw [hP]; simp
  have q0 : decide ((A.length : Int) < 0) = false := decide_eq_false (by omega)
  clear hP hn hk
  have hsh : ∃ a c, v = .slice a P.length c := by obtain ⟨a, c, he, _⟩ := h; exact ⟨a, c, he⟩
  obtain ⟨a, c, rfl⟩ := hsh
  have H := Lib.hid h
  clear h
  obtain ⟨k1, k2⟩ := k
  have HFD := Lib.hid hfd
  clear hfd
  unfold refV keyV
  unfold refV keyV at HFD
  go_enter Try.func22, Try.ntmps22
  go_wp2_with fail
  obtain ⟨w1, hw1⟩ : ∃ w1, w1 = ((w.alloc (.cells #[.int .i64 room, .slice a P.length c] 52)).alloc (.cells #[.int .i64 k1, .int .i64 k2] 55)).alloc (.cells #[.int .i64 0, .slice none 0 0] 52) := ⟨_, rfl⟩
  have bc : w1.heap[w.heap.size]? = some (.cells #[.int .i64 room, .slice a P.length c] 52 (0, 0)) := by rw [hw1]; exact blk_old (blk_old (blk_new rfl))
  have bk : w1.heap[w.heap.size + 1]? = some (.cells #[.int .i64 k1, .int .i64 k2] 55 (0, 0)) := by rw [hw1]; exact blk_old (blk_new (by simp))
  have br : w1.heap[w.heap.size + 1 + 1]? = some (.cells #[.int .i64 0, .slice none 0 0] 52 (0, 0)) := by rw [hw1]; exact blk_new (by simp)
  have hb1 : Below w.heap.size w w1 := by rw [hw1]; exact below_alloc (below_alloc (below_alloc (Below.refl _ w) (Nat.le_refl _) _) (Nat.le_refl _) _) (Nat.le_refl _) _
  rw [← hw1]
  clear hw1
  have hd1 : w.heap.size ≠ w.heap.size + 1 := by omega
  have hd2 : w.heap.size ≠ w.heap.size + 1 + 1 := by omega
  have hd3 : w.heap.size + 1 ≠ w.heap.size + 1 + 1 := by omega
  have hl1 : w.heap.size ≤ w.heap.size + 1 := by omega
  have hl2 : w.heap.size ≤ w.heap.size + 1 + 1 := by omega
  generalize w.heap.size + 1 + 1 = rb at br hd2 hd3 hl2 ⊢
  generalize w.heap.size + 1 = kb at bk hd1 hd3 hl1 ⊢
  generalize hcb : w.heap.size = cb at bc hb1 hd1 hd2 hl1 hl2 ⊢
  have H1 := Lib.hid (H.out.below (by rw [hcb]; exact hb1))
  have HCB := Lib.hid hcb
  clear hcb
  refine (HFD.out _ H1.out).mono ?_
  rintro e w2 ⟨rfl, hb2⟩
  have bc2 := blk_below hb2 (blk_lt bc) bc
  have bk2 := blk_below hb2 (blk_lt bk) bk
  have br2 := blk_below hb2 (blk_lt br) br
  have H2 := Lib.hid (H1.out.below hb2)
  have FB2 := Lib.hid (hb1.trans (hb2.mono (by have h1 := hb1.size; have h2 := HCB.out; omega)))
  clear bc bk br hb1 hb2 HFD H H1
  have BC2 := Lib.hid bc2; have BK2 := Lib.hid bk2; have BR2 := Lib.hid br2
  clear bc2 bk2 br2
  obtain ⟨a', c', he, hcap, hrow⟩ := H2.out
  obtain ⟨rfl, -, rfl⟩ := Value.slice.inj he
  obtain ⟨g, rfl, hg⟩ := hrow (by omega)
  have hb : P[A.length]? = some b := by rw [HP.out]; simp
  obtain ⟨⟨bk1, bk2⟩, bd, bdy, bp⟩ := b
  have m1 : (A.length : Int) < (P.length : Int) := by omega
  have m2 : (0 : Int) ≤ (A.length : Int) := by omega
  have d0 := hg.c0 _ _ hb
  have d1 := hg.c1 _ _ hb
  have d2 := hg.c2 _ _ hb
  have d3 := hg.c3 _ _ hb
  have d4 := hg.c4 _ _ hb
  simp only at d0 d1 d2 d3 d4
  have x0 : w2.cell? ⟨cb, 0, none⟩ = some (.int .i64 room) := cell_blk_some BC2.out rfl
  have x1 : w2.cell? ⟨cb, 1, none⟩ = some (.slice (some ⟨g, 0, none⟩) P.length c) := cell_blk_some BC2.out rfl
  have HG := Lib.hid hg
  clear he hrow hg hb
  go_upto_region 5 with fail
  obtain ⟨w3, hw3⟩ : ∃ w3, w3 = w2.alloc (.cells #[.int .i64 bk1, .int .i64 bk2, .string (strD bd), .bool bdy, .int .i64 bp] 86) := ⟨_, rfl⟩
  have bn3 : w3.heap[w2.heap.size]? = some (.cells #[.int .i64 bk1, .int .i64 bk2, .string (strD bd), .bool bdy, .int .i64 bp] 86 (0, 0)) := by rw [hw3]; exact blk_new rfl
  have f3 : Fr (fun x => w2.heap.size ≤ x) w2 w3 := by rw [hw3]; exact (Fr.refl _ w2).alloc _
  rw [← hw3]
  clear hw3 x0 x1 d0 d1 d2 d3 d4
  have nbc : cb < w2.heap.size := blk_lt BC2.out
  have nbr : rb < w2.heap.size := blk_lt BR2.out
  have gbc : g < w2.heap.size := HG.out.lt
  have nz3 := free_blk (i := 3) bn3
  have nz4 := free_blk (i := 4) bn3
  have n3 : w3.cell? ⟨w2.heap.size, 3, none⟩ = some (.bool bdy) := cell_blk_some bn3 rfl
  have n4 : w3.cell? ⟨w2.heap.size, 4, none⟩ = some (.int .i64 bp) := cell_blk_some bn3 rfl
  have bc3 := (f3.block cb nbc (by omega)).trans BC2.out
  have br3 := (f3.block rb nbr (by omega)).trans BR2.out
  have x0 : w3.cell? ⟨cb, 0, none⟩ = some (.int .i64 room) := cell_blk_some bc3 rfl
  have x1 : w3.cell? ⟨cb, 1, none⟩ = some (.slice (some ⟨g, 0, none⟩) P.length c) := cell_blk_some bc3 rfl
  have B3 := Lib.hid (FB2.out.trans (f3.toBelow (B := cb) (by omega) fun _ h => by omega))
  have BC3 := Lib.hid bc3; have BR3 := Lib.hid br3; have F3 := Lib.hid f3; have BN3 := Lib.hid bn3
  clear f3 bn3 bc3 br3
  go_upto_region 18 with fail
  have bn4 := blk_set (i := 3) BN3.out (.bool false)
  have f4 := F3.out.setCell ⟨w2.heap.size, 3, none⟩ (Nat.le_refl _) (.bool false)
  generalize w3.setCell ⟨w2.heap.size, 3, none⟩ (.bool false) = w4 at bn4 f4 ⊢
  have bc4 := (f4.block cb nbc (by omega)).trans BC2.out
  have br4 := (f4.block rb nbr (by omega)).trans BR2.out
  have g4 := HG.out.same (f4.block g gbc (by omega)) f4.size
  have hb4 := FB2.out.trans (f4.toBelow (B := cb) (by omega) fun _ h => by omega)
  clear nz3 nz4 n3 n4 x0 x1
  have x0 : w4.cell? ⟨cb, 0, none⟩ = some (.int .i64 room) := cell_blk_some bc4 rfl
  have x1 : w4.cell? ⟨cb, 1, none⟩ = some (.slice (some ⟨g, 0, none⟩) P.length c) := cell_blk_some bc4 rfl
  have x2 : (w4.alloc (.cells #[] 86)).cell? ⟨cb, 1, none⟩ = some (.slice (some ⟨g, 0, none⟩) P.length c) := cell_blk_some (blk_old bc4) rfl
  obtain ⟨i0, hi, hz0, hz1, hz2⟩ := info_parts infoBuf
  have hlP : (flatB P).length = P.length * 5 := flatB_length P
  have hcc : ∀ (j : Nat) u, (flatB P)[j]? = some u → (w4.alloc (.cells #[] 86)).cell? ((⟨g, 0, none⟩ : Addr).add j) = some u := fun j u hj => by
    have hadd : (⟨g, 0, none⟩ : Addr).add j = ⟨g, j, none⟩ := by unfold Addr.add; split <;> simp_all
    rw [hadd, World.cell?_of_block (w := w4) (a := ⟨g, j, none⟩) (((Fr.refl (fun _ => False) w4).alloc _).block g g4.lt id)]
    exact g4.cells j u hj
  have cb4 := blk_lt bc4; have rb4 := blk_lt br4; have nb4 := blk_lt bn4
  have HLP := Lib.hid hlP; have HCC := Lib.hid hcc; have BN4 := Lib.hid bn4; have BC4 := Lib.hid bc4; have BR4 := Lib.hid br4; have B4 := Lib.hid hb4
  clear hlP hcc bn4 bc4 br4 hb4 f4 g4 H2 HG F3 BN3 BC3 BR3 B3 BC2 BR2 BK2 FB2
  go_wp2_with (at_builtin; refine wpList_append_own _ rfl _ _ 50 rfl w4.heap.size 86 i0 _ 5 48 Try.underlying50 hi hz0 hz1 hz2 rfl (by decide) _ _ _ rfl (own_newB w4 (Nat.le_refl _)) ⟨g, 0, none⟩ P.length c (flatB P) rfl HLP.out HCC.out (flatB_one _) (by unfold maxLen; omega) (by omega) (by simp) ?_)
  intro v5 w5 hown5 hgr5 _
  have f5 : Fr (fun y => w4.heap.size ≤ y) w4 w5 := fr_own ((Fr.refl _ w4).alloc _) (own_newB w4 (Nat.le_refl _)) hgr5
  obtain ⟨gn, c5, cur, rfl, hgn, hc5, bg5, row5⟩ := own_blk hown5 (by omega)
  have hgl := blk_lt bg5
  have bc5 := (f5.block cb cb4 (by omega)).trans BC4.out
  have br5 := (f5.block rb rb4 (by omega)).trans BR4.out
  have bn5 := (f5.block w2.heap.size nb4 (by omega)).trans BN4.out
  have hb5 := B4.out.trans (f5.toBelow (B := cb) (by omega) fun _ h => by omega)
  have u1 : w5.cell? ⟨cb, 1, none⟩ = some (.slice (some ⟨g, 0, none⟩) P.length c) := cell_blk_some bc5 rfl
  have u2 := free_blk (i := 1) bc5
  have BC5 := Lib.hid bc5; have BR5 := Lib.hid br5; have BN5 := Lib.hid bn5; have BG5 := Lib.hid bg5; have R5 := Lib.hid row5; have B5 := Lib.hid hb5
  clear hown5 hgr5 f5 bc5 br5 bn5 bg5 row5 hb5 x0 x1 x2 BN4 BC4 BR4 B4 HLP HCC
  go_upto_region 19 with fail
  have f6 : Fr (fun y => y = cb) w5 (w5.setCell ⟨cb, 1, none⟩ (.slice (some ⟨gn, 0, none⟩) P.length c5)) := (Fr.refl (fun y => y = cb) w5).setCell ⟨cb, 1, none⟩ rfl _
  have bc6 := blk_set (i := 1) BC5.out (.slice (some ⟨gn, 0, none⟩) P.length c5)
  generalize w5.setCell ⟨cb, 1, none⟩ (.slice (some ⟨gn, 0, none⟩) P.length c5) = w6 at bc6 f6 ⊢
  have br6 := (f6.block rb (blk_lt BR5.out) (Ne.symm hd2)).trans BR5.out
  have bn6 := (f6.block w2.heap.size (blk_lt BN5.out) (by omega)).trans BN5.out
  have bg6 := (f6.block gn hgl (by omega)).trans BG5.out
  have r6 := R5.out.same (f6.block gn hgl (by omega)) f6.size
  have hb6 := B5.out.trans (f6.toBelow (B := cb) (by have h1 := B5.out.size; have h2 := HCB.out; omega) fun y hy => by rw [show y = cb from hy]; exact Nat.le_refl _)
  have hbP : P[A.length]? = some ⟨(bk1, bk2), bd, bdy, bp⟩ := by rw [HP.out]; simp
  have d0 := r6.c0 _ _ hbP
  have d1 := r6.c1 _ _ hbP
  have d2 := r6.c2 _ _ hbP
  have d3 := r6.c3 _ _ hbP
  have d4 := r6.c4 _ _ hbP
  simp only at d0 d1 d2 d3 d4
  have z0 := free_blk (i := A.length * 5) bg6
  have z1 := free_blk (i := A.length * 5 + 1) bg6
  have z2 := free_blk (i := A.length * 5 + 2) bg6
  have z3 := free_blk (i := A.length * 5 + 3) bg6
  have z4 := free_blk (i := A.length * 5 + 4) bg6
  have y0 : w6.cell? ⟨w2.heap.size, 0, none⟩ = some (.int .i64 bk1) := cell_blk_some bn6 rfl
  have y1 : w6.cell? ⟨w2.heap.size, 1, none⟩ = some (.int .i64 bk2) := cell_blk_some bn6 rfl
  have y2 : w6.cell? ⟨w2.heap.size, 2, none⟩ = some (.string (strD bd)) := cell_blk_some bn6 rfl
  have y3 : w6.cell? ⟨w2.heap.size, 3, none⟩ = some (.bool false) := cell_blk_some bn6 rfl
  have y4 : w6.cell? ⟨w2.heap.size, 4, none⟩ = some (.int .i64 bp) := cell_blk_some bn6 rfl
  have x1 : w6.cell? ⟨cb, 1, none⟩ = some (.slice (some ⟨gn, 0, none⟩) P.length c5) := cell_blk_some bc6 rfl
  have hge : cb ≤ gn := by omega
  have hgc : gn ≠ cb := by omega
  have hgr : gn ≠ rb := by omega
  have R6 := Lib.hid r6; have BC6 := Lib.hid bc6; have BR6 := Lib.hid br6; have B6 := Lib.hid hb6
  clear r6 bc6 br6 hb6 bn6 bg6 f6 hbP BC5 BR5 BN5 BG5 R5 B5 u1 u2
  go_upto_region 20 with fail
  have r7 := (R6.out.put (i := A.length) (b := (⟨(bk1, bk2), bd, false, bp⟩ : Pb)) hip)
  have f7 := (Fr.refl (fun y => y = gn) w6).set5 (i := A.length) rfl (⟨(bk1, bk2), bd, false, bp⟩ : Pb)
  unfold set5 at r7 f7
  simp only at r7 f7
  generalize ((((w6.setCell ⟨gn, A.length * 5, none⟩ (.int .i64 bk1)).setCell ⟨gn, A.length * 5 + 1, none⟩ (.int .i64 bk2)).setCell ⟨gn, A.length * 5 + 2, none⟩ (.string (strD bd))).setCell ⟨gn, A.length * 5 + 3, none⟩ (.bool false)).setCell ⟨gn, A.length * 5 + 4, none⟩ (.int .i64 bp) = w7 at r7 f7 ⊢
  rw [HP.out, set_mid] at r7
  have bc7 := (f7.block cb (blk_lt BC6.out) (Ne.symm hgc)).trans BC6.out
  have br7 := (f7.block rb (blk_lt BR6.out) (Ne.symm hgr)).trans BR6.out
  have hb7 := B6.out.trans (f7.toBelow (B := cb) (by have h1 := B6.out.size; have h2 := HCB.out; omega) fun y hy => by rw [show y = gn from hy]; exact hge)
  have u0 : w7.cell? ⟨cb, 0, none⟩ = some (.int .i64 room) := cell_blk_some bc7 rfl
  have u1 : w7.cell? ⟨cb, 1, none⟩ = some (.slice (some ⟨gn, 0, none⟩) P.length c5) := cell_blk_some bc7 rfl
  have r0 : w7.cell? ⟨rb, 0, none⟩ = some (.int .i64 0) := cell_blk_some br7 rfl
  have r1 : w7.cell? ⟨rb, 1, none⟩ = some (.slice none 0 0) := cell_blk_some br7 rfl
  have s0 := free_blk (i := 0) br7
  have s1 := free_blk (i := 1) br7
  have hlen : P.length = (A ++ (⟨(bk1, bk2), bd, false, bp⟩ : Pb) :: B).length := by rw [HP.out]; simp
  have hat : RefAt w7 (.slice (some ⟨gn, 0, none⟩) P.length c5) (A ++ (⟨(bk1, bk2), bd, false, bp⟩ : Pb) :: B) := ⟨_, c5, by rw [hlen], by omega, fun _ => ⟨gn, rfl, r7⟩⟩
  have R7 := Lib.hid hat; have BR7 := Lib.hid br7; have B7 := Lib.hid hb7
  clear hlen hat r7 f7 bc7 br7 hb7 R6 BC6 BR6 B6 d0 d1 d2 d3 d4 z0 z1 z2 z3 z4 y0 y1 y2 y3 y4 x1
  go_wp2_with fail
  have br8 := blk_set (i := 1) (blk_set (i := 0) BR7.out (.int .i64 room)) (.slice (some ⟨gn, 0, none⟩) P.length c5)
  refine bodyPost_ret (results_row_tmp rfl _ _ rb _ _ _ _ rfl br8 Try.underlying52 rfl (by kernel_rfl)) rfl ?_
  have hf : Fr (fun y => y = rb) w7 ((w7.setCell ⟨rb, 0, none⟩ (.int .i64 room)).setCell ⟨rb, 1, none⟩ (.slice (some ⟨gn, 0, none⟩) P.length c5)) := ((Fr.refl (fun y => y = rb) w7).setCell ⟨rb, 0, none⟩ rfl _).setCell ⟨rb, 1, none⟩ rfl _
  refine ⟨.slice (some ⟨gn, 0, none⟩) P.length c5, rfl, ?_, ?_⟩
  · have hq : w7.cell? ⟨rb, 2, none⟩ = none := by rw [cell_blk BR7.out]; rfl
    exact R7.out.off hq hf
  · rw [HCB.out]
    have h2 := HCB.out
    have h3 := B7.out.size
    exact B7.out.trans (hf.toBelow (B := cb) (by omega) fun y hy => by rw [show y = rb from hy]; exact hl2)
set_option maxHeartbeats 4000000 in
set_option maxRecDepth 100000 in
theorem refDo_pin {w : World} {v : Value} {P A B : List Pb} {b : Pb} {room : Int} {k : Int × Int} (h : RefAt w v P) (hl : P.length ≤ 100000) (hP : P = A ++ b :: B) (hn : (P.map (·.k)).Nodup) (hk : b.k = k) (h0 : 0 ≤ b.pins) (h1 : b.pins ≤ 1000000) :
    Calls Try.prog 22 #[refV room v, .int .i64 4, keyV k] w fun e w' => ∃ v', e = .returned (.tuple #[refV room v', .int .i64 0]) ∧ RefAt w' v' (A ++ { b with pins := b.pins + 1 } :: B) ∧ Below w.heap.size w w' := by
  have hfd : ∀ w, RefAt w v P → Calls Try.prog 40 #[refV room v, keyV k] w fun e w' => e = .returned (.int .i64 (A.length : Int)) ∧ Below w.heap.size w w' := fun w h => by
    rw [← hk]; rw [hP] at h hl hn; exact find_hit h hl hn
  have HP := Lib.hid hP; have HN := Lib.hid hn; have HK := Lib.hid hk
  have hip : A.length < P.length := by rw [hP]; simp
  have q0 : decide ((A.length : Int) < 0) = false := decide_eq_false (by omega)
  clear hP hn hk
  have hsh : ∃ a c, v = .slice a P.length c := by obtain ⟨a, c, he, _⟩ := h; exact ⟨a, c, he⟩
  obtain ⟨a, c, rfl⟩ := hsh
  have H := Lib.hid h
  clear h
  obtain ⟨k1, k2⟩ := k
  have HFD := Lib.hid hfd
  clear hfd
  unfold refV keyV
  unfold refV keyV at HFD
  go_enter Try.func22, Try.ntmps22
  go_wp2_with fail
  obtain ⟨w1, hw1⟩ : ∃ w1, w1 = ((w.alloc (.cells #[.int .i64 room, .slice a P.length c] 52)).alloc (.cells #[.int .i64 k1, .int .i64 k2] 55)).alloc (.cells #[.int .i64 0, .slice none 0 0] 52) := ⟨_, rfl⟩
  have bc : w1.heap[w.heap.size]? = some (.cells #[.int .i64 room, .slice a P.length c] 52 (0, 0)) := by rw [hw1]; exact blk_old (blk_old (blk_new rfl))
  have bk : w1.heap[w.heap.size + 1]? = some (.cells #[.int .i64 k1, .int .i64 k2] 55 (0, 0)) := by rw [hw1]; exact blk_old (blk_new (by simp))
  have br : w1.heap[w.heap.size + 1 + 1]? = some (.cells #[.int .i64 0, .slice none 0 0] 52 (0, 0)) := by rw [hw1]; exact blk_new (by simp)
  have hb1 : Below w.heap.size w w1 := by rw [hw1]; exact below_alloc (below_alloc (below_alloc (Below.refl _ w) (Nat.le_refl _) _) (Nat.le_refl _) _) (Nat.le_refl _) _
  rw [← hw1]
  clear hw1
  have hd1 : w.heap.size ≠ w.heap.size + 1 := by omega
  have hd2 : w.heap.size ≠ w.heap.size + 1 + 1 := by omega
  have hd3 : w.heap.size + 1 ≠ w.heap.size + 1 + 1 := by omega
  have hl1 : w.heap.size ≤ w.heap.size + 1 := by omega
  have hl2 : w.heap.size ≤ w.heap.size + 1 + 1 := by omega
  generalize w.heap.size + 1 + 1 = rb at br hd2 hd3 hl2 ⊢
  generalize w.heap.size + 1 = kb at bk hd1 hd3 hl1 ⊢
  generalize hcb : w.heap.size = cb at bc hb1 hd1 hd2 hl1 hl2 ⊢
  have H1 := Lib.hid (H.out.below (by rw [hcb]; exact hb1))
  have HCB := Lib.hid hcb
  clear hcb
  refine (HFD.out _ H1.out).mono ?_
  rintro e w2 ⟨rfl, hb2⟩
  have bc2 := blk_below hb2 (blk_lt bc) bc
  have bk2 := blk_below hb2 (blk_lt bk) bk
  have br2 := blk_below hb2 (blk_lt br) br
  have H2 := Lib.hid (H1.out.below hb2)
  have FB2 := Lib.hid (hb1.trans (hb2.mono (by have h1 := hb1.size; have h2 := HCB.out; omega)))
  clear bc bk br hb1 hb2 HFD H H1
  have BC2 := Lib.hid bc2; have BK2 := Lib.hid bk2; have BR2 := Lib.hid br2
  clear bc2 bk2 br2
  obtain ⟨a', c', he, hcap, hrow⟩ := H2.out
  obtain ⟨rfl, -, rfl⟩ := Value.slice.inj he
  obtain ⟨g, rfl, hg⟩ := hrow (by omega)
  have hb : P[A.length]? = some b := by rw [HP.out]; simp
  obtain ⟨⟨bk1, bk2⟩, bd, bdy, bp⟩ := b
  have m1 : (A.length : Int) < (P.length : Int) := by omega
  have m2 : (0 : Int) ≤ (A.length : Int) := by omega
  have d0 := hg.c0 _ _ hb
  have d1 := hg.c1 _ _ hb
  have d2 := hg.c2 _ _ hb
  have d3 := hg.c3 _ _ hb
  have d4 := hg.c4 _ _ hb
  simp only at d0 d1 d2 d3 d4
  have x0 : w2.cell? ⟨cb, 0, none⟩ = some (.int .i64 room) := cell_blk_some BC2.out rfl
  have x1 : w2.cell? ⟨cb, 1, none⟩ = some (.slice (some ⟨g, 0, none⟩) P.length c) := cell_blk_some BC2.out rfl
  have HG := Lib.hid hg
  clear he hrow hg hb
  go_upto_region 5 with fail
  obtain ⟨w3, hw3⟩ : ∃ w3, w3 = w2.alloc (.cells #[.int .i64 bk1, .int .i64 bk2, .string (strD bd), .bool bdy, .int .i64 bp] 86) := ⟨_, rfl⟩
  have bn3 : w3.heap[w2.heap.size]? = some (.cells #[.int .i64 bk1, .int .i64 bk2, .string (strD bd), .bool bdy, .int .i64 bp] 86 (0, 0)) := by rw [hw3]; exact blk_new rfl
  have f3 : Fr (fun x => w2.heap.size ≤ x) w2 w3 := by rw [hw3]; exact (Fr.refl _ w2).alloc _
  rw [← hw3]
  clear hw3 x0 x1 d0 d1 d2 d3 d4
  have nbc : cb < w2.heap.size := blk_lt BC2.out
  have nbr : rb < w2.heap.size := blk_lt BR2.out
  have gbc : g < w2.heap.size := HG.out.lt
  have nz3 := free_blk (i := 3) bn3
  have nz4 := free_blk (i := 4) bn3
  have n3 : w3.cell? ⟨w2.heap.size, 3, none⟩ = some (.bool bdy) := cell_blk_some bn3 rfl
  have n4 : w3.cell? ⟨w2.heap.size, 4, none⟩ = some (.int .i64 bp) := cell_blk_some bn3 rfl
  have bc3 := (f3.block cb nbc (by omega)).trans BC2.out
  have br3 := (f3.block rb nbr (by omega)).trans BR2.out
  have x0 : w3.cell? ⟨cb, 0, none⟩ = some (.int .i64 room) := cell_blk_some bc3 rfl
  have x1 : w3.cell? ⟨cb, 1, none⟩ = some (.slice (some ⟨g, 0, none⟩) P.length c) := cell_blk_some bc3 rfl
  have B3 := Lib.hid (FB2.out.trans (f3.toBelow (B := cb) (by omega) fun _ h => by omega))
  have BC3 := Lib.hid bc3; have BR3 := Lib.hid br3; have F3 := Lib.hid f3; have BN3 := Lib.hid bn3
  clear f3 bn3 bc3 br3
  have h0' : 0 ≤ bp := h0
  have h1' : bp ≤ 1000000 := h1
  have s1 : IntKind.i64.wrap (bp + 1) = bp + 1 := IntWalk.i64_in _ (by omega)
  go_upto_region 18 with fail
  have bn4 := blk_set (i := 4) BN3.out (.int .i64 (bp + 1))
  have f4 := F3.out.setCell ⟨w2.heap.size, 4, none⟩ (Nat.le_refl _) (.int .i64 (bp + 1))
  generalize w3.setCell ⟨w2.heap.size, 4, none⟩ (.int .i64 (bp + 1)) = w4 at bn4 f4 ⊢
  have bc4 := (f4.block cb nbc (by omega)).trans BC2.out
  have br4 := (f4.block rb nbr (by omega)).trans BR2.out
  have g4 := HG.out.same (f4.block g gbc (by omega)) f4.size
  have hb4 := FB2.out.trans (f4.toBelow (B := cb) (by omega) fun _ h => by omega)
  clear nz3 nz4 n3 n4 x0 x1
  have x0 : w4.cell? ⟨cb, 0, none⟩ = some (.int .i64 room) := cell_blk_some bc4 rfl
  have x1 : w4.cell? ⟨cb, 1, none⟩ = some (.slice (some ⟨g, 0, none⟩) P.length c) := cell_blk_some bc4 rfl
  have x2 : (w4.alloc (.cells #[] 86)).cell? ⟨cb, 1, none⟩ = some (.slice (some ⟨g, 0, none⟩) P.length c) := cell_blk_some (blk_old bc4) rfl
  obtain ⟨i0, hi, hz0, hz1, hz2⟩ := info_parts infoBuf
  have hlP : (flatB P).length = P.length * 5 := flatB_length P
  have hcc : ∀ (j : Nat) u, (flatB P)[j]? = some u → (w4.alloc (.cells #[] 86)).cell? ((⟨g, 0, none⟩ : Addr).add j) = some u := fun j u hj => by
    have hadd : (⟨g, 0, none⟩ : Addr).add j = ⟨g, j, none⟩ := by unfold Addr.add; split <;> simp_all
    rw [hadd, World.cell?_of_block (w := w4) (a := ⟨g, j, none⟩) (((Fr.refl (fun _ => False) w4).alloc _).block g g4.lt id)]
    exact g4.cells j u hj
  have cb4 := blk_lt bc4; have rb4 := blk_lt br4; have nb4 := blk_lt bn4
  have HLP := Lib.hid hlP; have HCC := Lib.hid hcc; have BN4 := Lib.hid bn4; have BC4 := Lib.hid bc4; have BR4 := Lib.hid br4; have B4 := Lib.hid hb4
  clear hlP hcc bn4 bc4 br4 hb4 f4 g4 H2 HG F3 BN3 BC3 BR3 B3 BC2 BR2 BK2 FB2
  go_wp2_with (at_builtin; refine wpList_append_own _ rfl _ _ 50 rfl w4.heap.size 86 i0 _ 5 48 Try.underlying50 hi hz0 hz1 hz2 rfl (by decide) _ _ _ rfl (own_newB w4 (Nat.le_refl _)) ⟨g, 0, none⟩ P.length c (flatB P) rfl HLP.out HCC.out (flatB_one _) (by unfold maxLen; omega) (by omega) (by simp) ?_)
  intro v5 w5 hown5 hgr5 _
  have f5 : Fr (fun y => w4.heap.size ≤ y) w4 w5 := fr_own ((Fr.refl _ w4).alloc _) (own_newB w4 (Nat.le_refl _)) hgr5
  obtain ⟨gn, c5, cur, rfl, hgn, hc5, bg5, row5⟩ := own_blk hown5 (by omega)
  have hgl := blk_lt bg5
  have bc5 := (f5.block cb cb4 (by omega)).trans BC4.out
  have br5 := (f5.block rb rb4 (by omega)).trans BR4.out
  have bn5 := (f5.block w2.heap.size nb4 (by omega)).trans BN4.out
  have hb5 := B4.out.trans (f5.toBelow (B := cb) (by omega) fun _ h => by omega)
  have u1 : w5.cell? ⟨cb, 1, none⟩ = some (.slice (some ⟨g, 0, none⟩) P.length c) := cell_blk_some bc5 rfl
  have u2 := free_blk (i := 1) bc5
  have BC5 := Lib.hid bc5; have BR5 := Lib.hid br5; have BN5 := Lib.hid bn5; have BG5 := Lib.hid bg5; have R5 := Lib.hid row5; have B5 := Lib.hid hb5
  clear hown5 hgr5 f5 bc5 br5 bn5 bg5 row5 hb5 x0 x1 x2 BN4 BC4 BR4 B4 HLP HCC
  go_upto_region 19 with fail
  have f6 : Fr (fun y => y = cb) w5 (w5.setCell ⟨cb, 1, none⟩ (.slice (some ⟨gn, 0, none⟩) P.length c5)) := (Fr.refl (fun y => y = cb) w5).setCell ⟨cb, 1, none⟩ rfl _
  have bc6 := blk_set (i := 1) BC5.out (.slice (some ⟨gn, 0, none⟩) P.length c5)
  generalize w5.setCell ⟨cb, 1, none⟩ (.slice (some ⟨gn, 0, none⟩) P.length c5) = w6 at bc6 f6 ⊢
  have br6 := (f6.block rb (blk_lt BR5.out) (Ne.symm hd2)).trans BR5.out
  have bn6 := (f6.block w2.heap.size (blk_lt BN5.out) (by omega)).trans BN5.out
  have bg6 := (f6.block gn hgl (by omega)).trans BG5.out
  have r6 := R5.out.same (f6.block gn hgl (by omega)) f6.size
  have hb6 := B5.out.trans (f6.toBelow (B := cb) (by have h1 := B5.out.size; have h2 := HCB.out; omega) fun y hy => by rw [show y = cb from hy]; exact Nat.le_refl _)
  have hbP : P[A.length]? = some ⟨(bk1, bk2), bd, bdy, bp⟩ := by rw [HP.out]; simp
  have d0 := r6.c0 _ _ hbP
  have d1 := r6.c1 _ _ hbP
  have d2 := r6.c2 _ _ hbP
  have d3 := r6.c3 _ _ hbP
  have d4 := r6.c4 _ _ hbP
  simp only at d0 d1 d2 d3 d4
  have z0 := free_blk (i := A.length * 5) bg6
  have z1 := free_blk (i := A.length * 5 + 1) bg6
  have z2 := free_blk (i := A.length * 5 + 2) bg6
  have z3 := free_blk (i := A.length * 5 + 3) bg6
  have z4 := free_blk (i := A.length * 5 + 4) bg6
  have y0 : w6.cell? ⟨w2.heap.size, 0, none⟩ = some (.int .i64 bk1) := cell_blk_some bn6 rfl
  have y1 : w6.cell? ⟨w2.heap.size, 1, none⟩ = some (.int .i64 bk2) := cell_blk_some bn6 rfl
  have y2 : w6.cell? ⟨w2.heap.size, 2, none⟩ = some (.string (strD bd)) := cell_blk_some bn6 rfl
  have y3 : w6.cell? ⟨w2.heap.size, 3, none⟩ = some (.bool bdy) := cell_blk_some bn6 rfl
  have y4 : w6.cell? ⟨w2.heap.size, 4, none⟩ = some (.int .i64 (bp + 1)) := cell_blk_some bn6 rfl
  have x1 : w6.cell? ⟨cb, 1, none⟩ = some (.slice (some ⟨gn, 0, none⟩) P.length c5) := cell_blk_some bc6 rfl
  have hge : cb ≤ gn := by omega
  have hgc : gn ≠ cb := by omega
  have hgr : gn ≠ rb := by omega
  have R6 := Lib.hid r6; have BC6 := Lib.hid bc6; have BR6 := Lib.hid br6; have B6 := Lib.hid hb6
  clear r6 bc6 br6 hb6 bn6 bg6 f6 hbP BC5 BR5 BN5 BG5 R5 B5 u1 u2
  go_upto_region 20 with fail
  have r7 := (R6.out.put (i := A.length) (b := (⟨(bk1, bk2), bd, bdy, bp + 1⟩ : Pb)) hip)
  have f7 := (Fr.refl (fun y => y = gn) w6).set5 (i := A.length) rfl (⟨(bk1, bk2), bd, bdy, bp + 1⟩ : Pb)
  unfold set5 at r7 f7
  simp only at r7 f7
  generalize ((((w6.setCell ⟨gn, A.length * 5, none⟩ (.int .i64 bk1)).setCell ⟨gn, A.length * 5 + 1, none⟩ (.int .i64 bk2)).setCell ⟨gn, A.length * 5 + 2, none⟩ (.string (strD bd))).setCell ⟨gn, A.length * 5 + 3, none⟩ (.bool bdy)).setCell ⟨gn, A.length * 5 + 4, none⟩ (.int .i64 (bp + 1)) = w7 at r7 f7 ⊢
  rw [HP.out, set_mid] at r7
  have bc7 := (f7.block cb (blk_lt BC6.out) (Ne.symm hgc)).trans BC6.out
  have br7 := (f7.block rb (blk_lt BR6.out) (Ne.symm hgr)).trans BR6.out
  have hb7 := B6.out.trans (f7.toBelow (B := cb) (by have h1 := B6.out.size; have h2 := HCB.out; omega) fun y hy => by rw [show y = gn from hy]; exact hge)
  have u0 : w7.cell? ⟨cb, 0, none⟩ = some (.int .i64 room) := cell_blk_some bc7 rfl
  have u1 : w7.cell? ⟨cb, 1, none⟩ = some (.slice (some ⟨gn, 0, none⟩) P.length c5) := cell_blk_some bc7 rfl
  have r0 : w7.cell? ⟨rb, 0, none⟩ = some (.int .i64 0) := cell_blk_some br7 rfl
  have r1 : w7.cell? ⟨rb, 1, none⟩ = some (.slice none 0 0) := cell_blk_some br7 rfl
  have s0 := free_blk (i := 0) br7
  have s1 := free_blk (i := 1) br7
  have hlen : P.length = (A ++ (⟨(bk1, bk2), bd, bdy, bp + 1⟩ : Pb) :: B).length := by rw [HP.out]; simp
  have hat : RefAt w7 (.slice (some ⟨gn, 0, none⟩) P.length c5) (A ++ (⟨(bk1, bk2), bd, bdy, bp + 1⟩ : Pb) :: B) := ⟨_, c5, by rw [hlen], by omega, fun _ => ⟨gn, rfl, r7⟩⟩
  have R7 := Lib.hid hat; have BR7 := Lib.hid br7; have B7 := Lib.hid hb7
  clear hlen hat r7 f7 bc7 br7 hb7 R6 BC6 BR6 B6 d0 d1 d2 d3 d4 z0 z1 z2 z3 z4 y0 y1 y2 y3 y4 x1
  go_wp2_with fail
  have br8 := blk_set (i := 1) (blk_set (i := 0) BR7.out (.int .i64 room)) (.slice (some ⟨gn, 0, none⟩) P.length c5)
  refine bodyPost_ret (results_row_tmp rfl _ _ rb _ _ _ _ rfl br8 Try.underlying52 rfl (by kernel_rfl)) rfl ?_
  have hf : Fr (fun y => y = rb) w7 ((w7.setCell ⟨rb, 0, none⟩ (.int .i64 room)).setCell ⟨rb, 1, none⟩ (.slice (some ⟨gn, 0, none⟩) P.length c5)) := ((Fr.refl (fun y => y = rb) w7).setCell ⟨rb, 0, none⟩ rfl _).setCell ⟨rb, 1, none⟩ rfl _
  refine ⟨.slice (some ⟨gn, 0, none⟩) P.length c5, rfl, ?_, ?_⟩
  · have hq : w7.cell? ⟨rb, 2, none⟩ = none := by rw [cell_blk BR7.out]; rfl
    exact R7.out.off hq hf
  · rw [HCB.out]
    have h2 := HCB.out
    have h3 := B7.out.size
    exact B7.out.trans (hf.toBelow (B := cb) (by omega) fun y hy => by rw [show y = rb from hy]; exact hl2)
set_option maxHeartbeats 4000000 in
set_option maxRecDepth 100000 in
theorem refDo_unpin {w : World} {v : Value} {P A B : List Pb} {b : Pb} {room : Int} {k : Int × Int} (h : RefAt w v P) (hl : P.length ≤ 100000) (hP : P = A ++ b :: B) (hn : (P.map (·.k)).Nodup) (hk : b.k = k) (h0 : 0 < b.pins) (h1 : b.pins ≤ 1000000) :
    Calls Try.prog 22 #[refV room v, .int .i64 5, keyV k] w fun e w' => ∃ v', e = .returned (.tuple #[refV room v', .int .i64 0]) ∧ RefAt w' v' (A ++ { b with pins := b.pins - 1 } :: B) ∧ Below w.heap.size w w' := by
  have hfd : ∀ w, RefAt w v P → Calls Try.prog 40 #[refV room v, keyV k] w fun e w' => e = .returned (.int .i64 (A.length : Int)) ∧ Below w.heap.size w w' := fun w h => by
    rw [← hk]; rw [hP] at h hl hn; exact find_hit h hl hn
  have HP := Lib.hid hP; have HN := Lib.hid hn; have HK := Lib.hid hk
  have hip : A.length < P.length := by rw [hP]; simp
  have q0 : decide ((A.length : Int) < 0) = false := decide_eq_false (by omega)
  clear hP hn hk
  have hsh : ∃ a c, v = .slice a P.length c := by obtain ⟨a, c, he, _⟩ := h; exact ⟨a, c, he⟩
  obtain ⟨a, c, rfl⟩ := hsh
  have H := Lib.hid h
  clear h
  obtain ⟨k1, k2⟩ := k
  have HFD := Lib.hid hfd
  clear hfd
  unfold refV keyV
  unfold refV keyV at HFD
  go_enter Try.func22, Try.ntmps22
  go_wp2_with fail
  obtain ⟨w1, hw1⟩ : ∃ w1, w1 = ((w.alloc (.cells #[.int .i64 room, .slice a P.length c] 52)).alloc (.cells #[.int .i64 k1, .int .i64 k2] 55)).alloc (.cells #[.int .i64 0, .slice none 0 0] 52) := ⟨_, rfl⟩
  have bc : w1.heap[w.heap.size]? = some (.cells #[.int .i64 room, .slice a P.length c] 52 (0, 0)) := by rw [hw1]; exact blk_old (blk_old (blk_new rfl))
  have bk : w1.heap[w.heap.size + 1]? = some (.cells #[.int .i64 k1, .int .i64 k2] 55 (0, 0)) := by rw [hw1]; exact blk_old (blk_new (by simp))
  have br : w1.heap[w.heap.size + 1 + 1]? = some (.cells #[.int .i64 0, .slice none 0 0] 52 (0, 0)) := by rw [hw1]; exact blk_new (by simp)
  have hb1 : Below w.heap.size w w1 := by rw [hw1]; exact below_alloc (below_alloc (below_alloc (Below.refl _ w) (Nat.le_refl _) _) (Nat.le_refl _) _) (Nat.le_refl _) _
  rw [← hw1]
  clear hw1
  have hd1 : w.heap.size ≠ w.heap.size + 1 := by omega
  have hd2 : w.heap.size ≠ w.heap.size + 1 + 1 := by omega
  have hd3 : w.heap.size + 1 ≠ w.heap.size + 1 + 1 := by omega
  have hl1 : w.heap.size ≤ w.heap.size + 1 := by omega
  have hl2 : w.heap.size ≤ w.heap.size + 1 + 1 := by omega
  generalize w.heap.size + 1 + 1 = rb at br hd2 hd3 hl2 ⊢
  generalize w.heap.size + 1 = kb at bk hd1 hd3 hl1 ⊢
  generalize hcb : w.heap.size = cb at bc hb1 hd1 hd2 hl1 hl2 ⊢
  have H1 := Lib.hid (H.out.below (by rw [hcb]; exact hb1))
  have HCB := Lib.hid hcb
  clear hcb
  refine (HFD.out _ H1.out).mono ?_
  rintro e w2 ⟨rfl, hb2⟩
  have bc2 := blk_below hb2 (blk_lt bc) bc
  have bk2 := blk_below hb2 (blk_lt bk) bk
  have br2 := blk_below hb2 (blk_lt br) br
  have H2 := Lib.hid (H1.out.below hb2)
  have FB2 := Lib.hid (hb1.trans (hb2.mono (by have h1 := hb1.size; have h2 := HCB.out; omega)))
  clear bc bk br hb1 hb2 HFD H H1
  have BC2 := Lib.hid bc2; have BK2 := Lib.hid bk2; have BR2 := Lib.hid br2
  clear bc2 bk2 br2
  obtain ⟨a', c', he, hcap, hrow⟩ := H2.out
  obtain ⟨rfl, -, rfl⟩ := Value.slice.inj he
  obtain ⟨g, rfl, hg⟩ := hrow (by omega)
  have hb : P[A.length]? = some b := by rw [HP.out]; simp
  obtain ⟨⟨bk1, bk2⟩, bd, bdy, bp⟩ := b
  have m1 : (A.length : Int) < (P.length : Int) := by omega
  have m2 : (0 : Int) ≤ (A.length : Int) := by omega
  have d0 := hg.c0 _ _ hb
  have d1 := hg.c1 _ _ hb
  have d2 := hg.c2 _ _ hb
  have d3 := hg.c3 _ _ hb
  have d4 := hg.c4 _ _ hb
  simp only at d0 d1 d2 d3 d4
  have x0 : w2.cell? ⟨cb, 0, none⟩ = some (.int .i64 room) := cell_blk_some BC2.out rfl
  have x1 : w2.cell? ⟨cb, 1, none⟩ = some (.slice (some ⟨g, 0, none⟩) P.length c) := cell_blk_some BC2.out rfl
  have HG := Lib.hid hg
  clear he hrow hg hb
  go_upto_region 5 with fail
  obtain ⟨w3, hw3⟩ : ∃ w3, w3 = w2.alloc (.cells #[.int .i64 bk1, .int .i64 bk2, .string (strD bd), .bool bdy, .int .i64 bp] 86) := ⟨_, rfl⟩
  have bn3 : w3.heap[w2.heap.size]? = some (.cells #[.int .i64 bk1, .int .i64 bk2, .string (strD bd), .bool bdy, .int .i64 bp] 86 (0, 0)) := by rw [hw3]; exact blk_new rfl
  have f3 : Fr (fun x => w2.heap.size ≤ x) w2 w3 := by rw [hw3]; exact (Fr.refl _ w2).alloc _
  rw [← hw3]
  clear hw3 x0 x1 d0 d1 d2 d3 d4
  have nbc : cb < w2.heap.size := blk_lt BC2.out
  have nbr : rb < w2.heap.size := blk_lt BR2.out
  have gbc : g < w2.heap.size := HG.out.lt
  have nz3 := free_blk (i := 3) bn3
  have nz4 := free_blk (i := 4) bn3
  have n3 : w3.cell? ⟨w2.heap.size, 3, none⟩ = some (.bool bdy) := cell_blk_some bn3 rfl
  have n4 : w3.cell? ⟨w2.heap.size, 4, none⟩ = some (.int .i64 bp) := cell_blk_some bn3 rfl
  have bc3 := (f3.block cb nbc (by omega)).trans BC2.out
  have br3 := (f3.block rb nbr (by omega)).trans BR2.out
  have x0 : w3.cell? ⟨cb, 0, none⟩ = some (.int .i64 room) := cell_blk_some bc3 rfl
  have x1 : w3.cell? ⟨cb, 1, none⟩ = some (.slice (some ⟨g, 0, none⟩) P.length c) := cell_blk_some bc3 rfl
  have B3 := Lib.hid (FB2.out.trans (f3.toBelow (B := cb) (by omega) fun _ h => by omega))
  have BC3 := Lib.hid bc3; have BR3 := Lib.hid br3; have F3 := Lib.hid f3; have BN3 := Lib.hid bn3
  clear f3 bn3 bc3 br3
  have h0' : 0 < bp := h0
  have h1' : bp ≤ 1000000 := h1
  have s1 : IntKind.i64.wrap (bp - 1) = bp - 1 := IntWalk.i64_in _ (by omega)
  have s2 : (bp == 0) = false := beq_eq_false_iff_ne.2 (by omega)
  go_upto_region 18 with fail
  have bn4 := blk_set (i := 4) BN3.out (.int .i64 (bp - 1))
  have f4 := F3.out.setCell ⟨w2.heap.size, 4, none⟩ (Nat.le_refl _) (.int .i64 (bp - 1))
  generalize w3.setCell ⟨w2.heap.size, 4, none⟩ (.int .i64 (bp - 1)) = w4 at bn4 f4 ⊢
  have bc4 := (f4.block cb nbc (by omega)).trans BC2.out
  have br4 := (f4.block rb nbr (by omega)).trans BR2.out
  have g4 := HG.out.same (f4.block g gbc (by omega)) f4.size
  have hb4 := FB2.out.trans (f4.toBelow (B := cb) (by omega) fun _ h => by omega)
  clear nz3 nz4 n3 n4 x0 x1
  have x0 : w4.cell? ⟨cb, 0, none⟩ = some (.int .i64 room) := cell_blk_some bc4 rfl
  have x1 : w4.cell? ⟨cb, 1, none⟩ = some (.slice (some ⟨g, 0, none⟩) P.length c) := cell_blk_some bc4 rfl
  have x2 : (w4.alloc (.cells #[] 86)).cell? ⟨cb, 1, none⟩ = some (.slice (some ⟨g, 0, none⟩) P.length c) := cell_blk_some (blk_old bc4) rfl
  obtain ⟨i0, hi, hz0, hz1, hz2⟩ := info_parts infoBuf
  have hlP : (flatB P).length = P.length * 5 := flatB_length P
  have hcc : ∀ (j : Nat) u, (flatB P)[j]? = some u → (w4.alloc (.cells #[] 86)).cell? ((⟨g, 0, none⟩ : Addr).add j) = some u := fun j u hj => by
    have hadd : (⟨g, 0, none⟩ : Addr).add j = ⟨g, j, none⟩ := by unfold Addr.add; split <;> simp_all
    rw [hadd, World.cell?_of_block (w := w4) (a := ⟨g, j, none⟩) (((Fr.refl (fun _ => False) w4).alloc _).block g g4.lt id)]
    exact g4.cells j u hj
  have cb4 := blk_lt bc4; have rb4 := blk_lt br4; have nb4 := blk_lt bn4
  have HLP := Lib.hid hlP; have HCC := Lib.hid hcc; have BN4 := Lib.hid bn4; have BC4 := Lib.hid bc4; have BR4 := Lib.hid br4; have B4 := Lib.hid hb4
  clear hlP hcc bn4 bc4 br4 hb4 f4 g4 H2 HG F3 BN3 BC3 BR3 B3 BC2 BR2 BK2 FB2
  go_wp2_with (at_builtin; refine wpList_append_own _ rfl _ _ 50 rfl w4.heap.size 86 i0 _ 5 48 Try.underlying50 hi hz0 hz1 hz2 rfl (by decide) _ _ _ rfl (own_newB w4 (Nat.le_refl _)) ⟨g, 0, none⟩ P.length c (flatB P) rfl HLP.out HCC.out (flatB_one _) (by unfold maxLen; omega) (by omega) (by simp) ?_)
  intro v5 w5 hown5 hgr5 _
  have f5 : Fr (fun y => w4.heap.size ≤ y) w4 w5 := fr_own ((Fr.refl _ w4).alloc _) (own_newB w4 (Nat.le_refl _)) hgr5
  obtain ⟨gn, c5, cur, rfl, hgn, hc5, bg5, row5⟩ := own_blk hown5 (by omega)
  have hgl := blk_lt bg5
  have bc5 := (f5.block cb cb4 (by omega)).trans BC4.out
  have br5 := (f5.block rb rb4 (by omega)).trans BR4.out
  have bn5 := (f5.block w2.heap.size nb4 (by omega)).trans BN4.out
  have hb5 := B4.out.trans (f5.toBelow (B := cb) (by omega) fun _ h => by omega)
  have u1 : w5.cell? ⟨cb, 1, none⟩ = some (.slice (some ⟨g, 0, none⟩) P.length c) := cell_blk_some bc5 rfl
  have u2 := free_blk (i := 1) bc5
  have BC5 := Lib.hid bc5; have BR5 := Lib.hid br5; have BN5 := Lib.hid bn5; have BG5 := Lib.hid bg5; have R5 := Lib.hid row5; have B5 := Lib.hid hb5
  clear hown5 hgr5 f5 bc5 br5 bn5 bg5 row5 hb5 x0 x1 x2 BN4 BC4 BR4 B4 HLP HCC
  go_upto_region 19 with fail
  have f6 : Fr (fun y => y = cb) w5 (w5.setCell ⟨cb, 1, none⟩ (.slice (some ⟨gn, 0, none⟩) P.length c5)) := (Fr.refl (fun y => y = cb) w5).setCell ⟨cb, 1, none⟩ rfl _
  have bc6 := blk_set (i := 1) BC5.out (.slice (some ⟨gn, 0, none⟩) P.length c5)
  generalize w5.setCell ⟨cb, 1, none⟩ (.slice (some ⟨gn, 0, none⟩) P.length c5) = w6 at bc6 f6 ⊢
  have br6 := (f6.block rb (blk_lt BR5.out) (Ne.symm hd2)).trans BR5.out
  have bn6 := (f6.block w2.heap.size (blk_lt BN5.out) (by omega)).trans BN5.out
  have bg6 := (f6.block gn hgl (by omega)).trans BG5.out
  have r6 := R5.out.same (f6.block gn hgl (by omega)) f6.size
  have hb6 := B5.out.trans (f6.toBelow (B := cb) (by have h1 := B5.out.size; have h2 := HCB.out; omega) fun y hy => by rw [show y = cb from hy]; exact Nat.le_refl _)
  have hbP : P[A.length]? = some ⟨(bk1, bk2), bd, bdy, bp⟩ := by rw [HP.out]; simp
  have d0 := r6.c0 _ _ hbP
  have d1 := r6.c1 _ _ hbP
  have d2 := r6.c2 _ _ hbP
  have d3 := r6.c3 _ _ hbP
  have d4 := r6.c4 _ _ hbP
  simp only at d0 d1 d2 d3 d4
  have z0 := free_blk (i := A.length * 5) bg6
  have z1 := free_blk (i := A.length * 5 + 1) bg6
  have z2 := free_blk (i := A.length * 5 + 2) bg6
  have z3 := free_blk (i := A.length * 5 + 3) bg6
  have z4 := free_blk (i := A.length * 5 + 4) bg6
  have y0 : w6.cell? ⟨w2.heap.size, 0, none⟩ = some (.int .i64 bk1) := cell_blk_some bn6 rfl
  have y1 : w6.cell? ⟨w2.heap.size, 1, none⟩ = some (.int .i64 bk2) := cell_blk_some bn6 rfl
  have y2 : w6.cell? ⟨w2.heap.size, 2, none⟩ = some (.string (strD bd)) := cell_blk_some bn6 rfl
  have y3 : w6.cell? ⟨w2.heap.size, 3, none⟩ = some (.bool bdy) := cell_blk_some bn6 rfl
  have y4 : w6.cell? ⟨w2.heap.size, 4, none⟩ = some (.int .i64 (bp - 1)) := cell_blk_some bn6 rfl
  have x1 : w6.cell? ⟨cb, 1, none⟩ = some (.slice (some ⟨gn, 0, none⟩) P.length c5) := cell_blk_some bc6 rfl
  have hge : cb ≤ gn := by omega
  have hgc : gn ≠ cb := by omega
  have hgr : gn ≠ rb := by omega
  have R6 := Lib.hid r6; have BC6 := Lib.hid bc6; have BR6 := Lib.hid br6; have B6 := Lib.hid hb6
  clear r6 bc6 br6 hb6 bn6 bg6 f6 hbP BC5 BR5 BN5 BG5 R5 B5 u1 u2
  go_upto_region 20 with fail
  have r7 := (R6.out.put (i := A.length) (b := (⟨(bk1, bk2), bd, bdy, bp - 1⟩ : Pb)) hip)
  have f7 := (Fr.refl (fun y => y = gn) w6).set5 (i := A.length) rfl (⟨(bk1, bk2), bd, bdy, bp - 1⟩ : Pb)
  unfold set5 at r7 f7
  simp only at r7 f7
  generalize ((((w6.setCell ⟨gn, A.length * 5, none⟩ (.int .i64 bk1)).setCell ⟨gn, A.length * 5 + 1, none⟩ (.int .i64 bk2)).setCell ⟨gn, A.length * 5 + 2, none⟩ (.string (strD bd))).setCell ⟨gn, A.length * 5 + 3, none⟩ (.bool bdy)).setCell ⟨gn, A.length * 5 + 4, none⟩ (.int .i64 (bp - 1)) = w7 at r7 f7 ⊢
  rw [HP.out, set_mid] at r7
  have bc7 := (f7.block cb (blk_lt BC6.out) (Ne.symm hgc)).trans BC6.out
  have br7 := (f7.block rb (blk_lt BR6.out) (Ne.symm hgr)).trans BR6.out
  have hb7 := B6.out.trans (f7.toBelow (B := cb) (by have h1 := B6.out.size; have h2 := HCB.out; omega) fun y hy => by rw [show y = gn from hy]; exact hge)
  have u0 : w7.cell? ⟨cb, 0, none⟩ = some (.int .i64 room) := cell_blk_some bc7 rfl
  have u1 : w7.cell? ⟨cb, 1, none⟩ = some (.slice (some ⟨gn, 0, none⟩) P.length c5) := cell_blk_some bc7 rfl
  have r0 : w7.cell? ⟨rb, 0, none⟩ = some (.int .i64 0) := cell_blk_some br7 rfl
  have r1 : w7.cell? ⟨rb, 1, none⟩ = some (.slice none 0 0) := cell_blk_some br7 rfl
  have s0 := free_blk (i := 0) br7
  have s1 := free_blk (i := 1) br7
  have hlen : P.length = (A ++ (⟨(bk1, bk2), bd, bdy, bp - 1⟩ : Pb) :: B).length := by rw [HP.out]; simp
  have hat : RefAt w7 (.slice (some ⟨gn, 0, none⟩) P.length c5) (A ++ (⟨(bk1, bk2), bd, bdy, bp - 1⟩ : Pb) :: B) := ⟨_, c5, by rw [hlen], by omega, fun _ => ⟨gn, rfl, r7⟩⟩
  have R7 := Lib.hid hat; have BR7 := Lib.hid br7; have B7 := Lib.hid hb7
  clear hlen hat r7 f7 bc7 br7 hb7 R6 BC6 BR6 B6 d0 d1 d2 d3 d4 z0 z1 z2 z3 z4 y0 y1 y2 y3 y4 x1
  go_wp2_with fail
  have br8 := blk_set (i := 1) (blk_set (i := 0) BR7.out (.int .i64 room)) (.slice (some ⟨gn, 0, none⟩) P.length c5)
  refine bodyPost_ret (results_row_tmp rfl _ _ rb _ _ _ _ rfl br8 Try.underlying52 rfl (by kernel_rfl)) rfl ?_
  have hf : Fr (fun y => y = rb) w7 ((w7.setCell ⟨rb, 0, none⟩ (.int .i64 room)).setCell ⟨rb, 1, none⟩ (.slice (some ⟨gn, 0, none⟩) P.length c5)) := ((Fr.refl (fun y => y = rb) w7).setCell ⟨rb, 0, none⟩ rfl _).setCell ⟨rb, 1, none⟩ rfl _
  refine ⟨.slice (some ⟨gn, 0, none⟩) P.length c5, rfl, ?_, ?_⟩
  · have hq : w7.cell? ⟨rb, 2, none⟩ = none := by rw [cell_blk BR7.out]; rfl
    exact R7.out.off hq hf
  · rw [HCB.out]
    have h2 := HCB.out
    have h3 := B7.out.size
    exact B7.out.trans (hf.toBelow (B := cb) (by omega) fun y hy => by rw [show y = rb from hy]; exact hl2)
set_option maxHeartbeats 4000000 in
set_option maxRecDepth 100000 in
theorem refDo_unpin0 {w : World} {v : Value} {P A B : List Pb} {b : Pb} {room : Int} {k : Int × Int} (h : RefAt w v P) (hl : P.length ≤ 100000) (hP : P = A ++ b :: B) (hn : (P.map (·.k)).Nodup) (hk : b.k = k) (h0 : b.pins = 0) :
    Calls Try.prog 22 #[refV room v, .int .i64 5, keyV k] w fun e w' => e = .returned (.tuple #[refV room v, .int .i64 22]) ∧ Below w.heap.size w w' := by
  have hfd : ∀ w, RefAt w v P → Calls Try.prog 40 #[refV room v, keyV k] w fun e w' => e = .returned (.int .i64 (A.length : Int)) ∧ Below w.heap.size w w' := fun w h => by
    rw [← hk]; rw [hP] at h hl hn; exact find_hit h hl hn
  have HP := Lib.hid hP; have HN := Lib.hid hn; have HK := Lib.hid hk
  have hip : A.length < P.length := by rw [hP]; simp
  have q0 : decide ((A.length : Int) < 0) = false := decide_eq_false (by omega)
  have H0 := Lib.hid h0
  clear h0
  clear hP hn hk
  have hsh : ∃ a c, v = .slice a P.length c := by obtain ⟨a, c, he, _⟩ := h; exact ⟨a, c, he⟩
  obtain ⟨a, c, rfl⟩ := hsh
  have H := Lib.hid h
  clear h
  obtain ⟨k1, k2⟩ := k
  have HFD := Lib.hid hfd
  clear hfd
  unfold refV keyV
  unfold refV keyV at HFD
  go_enter Try.func22, Try.ntmps22
  go_wp2_with fail
  obtain ⟨w1, hw1⟩ : ∃ w1, w1 = ((w.alloc (.cells #[.int .i64 room, .slice a P.length c] 52)).alloc (.cells #[.int .i64 k1, .int .i64 k2] 55)).alloc (.cells #[.int .i64 0, .slice none 0 0] 52) := ⟨_, rfl⟩
  have bc : w1.heap[w.heap.size]? = some (.cells #[.int .i64 room, .slice a P.length c] 52 (0, 0)) := by rw [hw1]; exact blk_old (blk_old (blk_new rfl))
  have bk : w1.heap[w.heap.size + 1]? = some (.cells #[.int .i64 k1, .int .i64 k2] 55 (0, 0)) := by rw [hw1]; exact blk_old (blk_new (by simp))
  have br : w1.heap[w.heap.size + 1 + 1]? = some (.cells #[.int .i64 0, .slice none 0 0] 52 (0, 0)) := by rw [hw1]; exact blk_new (by simp)
  have hb1 : Below w.heap.size w w1 := by rw [hw1]; exact below_alloc (below_alloc (below_alloc (Below.refl _ w) (Nat.le_refl _) _) (Nat.le_refl _) _) (Nat.le_refl _) _
  rw [← hw1]
  clear hw1
  have hd1 : w.heap.size ≠ w.heap.size + 1 := by omega
  have hd2 : w.heap.size ≠ w.heap.size + 1 + 1 := by omega
  have hd3 : w.heap.size + 1 ≠ w.heap.size + 1 + 1 := by omega
  have hl1 : w.heap.size ≤ w.heap.size + 1 := by omega
  have hl2 : w.heap.size ≤ w.heap.size + 1 + 1 := by omega
  generalize w.heap.size + 1 + 1 = rb at br hd2 hd3 hl2 ⊢
  generalize w.heap.size + 1 = kb at bk hd1 hd3 hl1 ⊢
  generalize hcb : w.heap.size = cb at bc hb1 hd1 hd2 hl1 hl2 ⊢
  have H1 := Lib.hid (H.out.below (by rw [hcb]; exact hb1))
  have HCB := Lib.hid hcb
  clear hcb
  refine (HFD.out _ H1.out).mono ?_
  rintro e w2 ⟨rfl, hb2⟩
  have bc2 := blk_below hb2 (blk_lt bc) bc
  have bk2 := blk_below hb2 (blk_lt bk) bk
  have br2 := blk_below hb2 (blk_lt br) br
  have H2 := Lib.hid (H1.out.below hb2)
  have FB2 := Lib.hid (hb1.trans (hb2.mono (by have h1 := hb1.size; have h2 := HCB.out; omega)))
  clear bc bk br hb1 hb2 HFD H H1
  have BC2 := Lib.hid bc2; have BK2 := Lib.hid bk2; have BR2 := Lib.hid br2
  clear bc2 bk2 br2
  obtain ⟨a', c', he, hcap, hrow⟩ := H2.out
  obtain ⟨rfl, -, rfl⟩ := Value.slice.inj he
  obtain ⟨g, rfl, hg⟩ := hrow (by omega)
  have hb : P[A.length]? = some b := by rw [HP.out]; simp
  obtain ⟨⟨bk1, bk2⟩, bd, bdy, bp⟩ := b
  have m1 : (A.length : Int) < (P.length : Int) := by omega
  have m2 : (0 : Int) ≤ (A.length : Int) := by omega
  have d0 := hg.c0 _ _ hb
  have d1 := hg.c1 _ _ hb
  have d2 := hg.c2 _ _ hb
  have d3 := hg.c3 _ _ hb
  have d4 := hg.c4 _ _ hb
  simp only at d0 d1 d2 d3 d4
  have x0 : w2.cell? ⟨cb, 0, none⟩ = some (.int .i64 room) := cell_blk_some BC2.out rfl
  have x1 : w2.cell? ⟨cb, 1, none⟩ = some (.slice (some ⟨g, 0, none⟩) P.length c) := cell_blk_some BC2.out rfl
  have HG := Lib.hid hg
  clear he hrow hg hb
  go_upto_region 5 with fail
  obtain ⟨w3, hw3⟩ : ∃ w3, w3 = w2.alloc (.cells #[.int .i64 bk1, .int .i64 bk2, .string (strD bd), .bool bdy, .int .i64 bp] 86) := ⟨_, rfl⟩
  have bn3 : w3.heap[w2.heap.size]? = some (.cells #[.int .i64 bk1, .int .i64 bk2, .string (strD bd), .bool bdy, .int .i64 bp] 86 (0, 0)) := by rw [hw3]; exact blk_new rfl
  have f3 : Fr (fun x => w2.heap.size ≤ x) w2 w3 := by rw [hw3]; exact (Fr.refl _ w2).alloc _
  rw [← hw3]
  clear hw3 x0 x1 d0 d1 d2 d3 d4
  have nbc : cb < w2.heap.size := blk_lt BC2.out
  have nbr : rb < w2.heap.size := blk_lt BR2.out
  have gbc : g < w2.heap.size := HG.out.lt
  have nz3 := free_blk (i := 3) bn3
  have nz4 := free_blk (i := 4) bn3
  have n3 : w3.cell? ⟨w2.heap.size, 3, none⟩ = some (.bool bdy) := cell_blk_some bn3 rfl
  have n4 : w3.cell? ⟨w2.heap.size, 4, none⟩ = some (.int .i64 bp) := cell_blk_some bn3 rfl
  have bc3 := (f3.block cb nbc (by omega)).trans BC2.out
  have br3 := (f3.block rb nbr (by omega)).trans BR2.out
  have x0 : w3.cell? ⟨cb, 0, none⟩ = some (.int .i64 room) := cell_blk_some bc3 rfl
  have x1 : w3.cell? ⟨cb, 1, none⟩ = some (.slice (some ⟨g, 0, none⟩) P.length c) := cell_blk_some bc3 rfl
  have B3 := Lib.hid (FB2.out.trans (f3.toBelow (B := cb) (by omega) fun _ h => by omega))
  have BC3 := Lib.hid bc3; have BR3 := Lib.hid br3; have F3 := Lib.hid f3; have BN3 := Lib.hid bn3
  clear f3 bn3 bc3 br3
  obtain rfl : bp = 0 := H0.out
  have r0 : w3.cell? ⟨rb, 0, none⟩ = some (.int .i64 0) := cell_blk_some BR3.out rfl
  have r1 : w3.cell? ⟨rb, 1, none⟩ = some (.slice none 0 0) := cell_blk_some BR3.out rfl
  have z0 := free_blk (i := 0) BR3.out
  have z1 := free_blk (i := 1) BR3.out
  go_wp2_with fail
  have br6 := blk_set (i := 1) (blk_set (i := 0) BR3.out (.int .i64 room)) (.slice (some ⟨g, 0, none⟩) P.length c)
  refine bodyPost_ret (results_row_tmp rfl _ _ rb _ _ _ _ rfl br6 Try.underlying52 rfl (by kernel_rfl)) rfl ?_
  have hf : Fr (fun y => y = rb) w3 ((w3.setCell ⟨rb, 0, none⟩ (.int .i64 room)).setCell ⟨rb, 1, none⟩ (.slice (some ⟨g, 0, none⟩) P.length c)) := ((Fr.refl (fun y => y = rb) w3).setCell ⟨rb, 0, none⟩ rfl _).setCell ⟨rb, 1, none⟩ rfl _
  have hbe : Below w.heap.size w ((w3.setCell ⟨rb, 0, none⟩ (.int .i64 room)).setCell ⟨rb, 1, none⟩ (.slice (some ⟨g, 0, none⟩) P.length c)) := by
    rw [HCB.out]
    have h2 := HCB.out
    have h3 := B3.out.size
    exact B3.out.trans (hf.toBelow (B := cb) (by omega) fun y hy => by rw [show y = rb from hy]; exact hl2)
  exact ⟨rfl, hbe⟩
set_option maxHeartbeats 4000000 in
set_option maxRecDepth 100000 in
theorem refDo_busy {w : World} {v : Value} {P A B : List Pb} {b : Pb} {room : Int} {k : Int × Int} (h : RefAt w v P) (hl : P.length ≤ 100000) (hP : P = A ++ b :: B) (hn : (P.map (·.k)).Nodup) (hk : b.k = k) (h0 : 0 < b.pins) :
    Calls Try.prog 22 #[refV room v, .int .i64 6, keyV k] w fun e w' => e = .returned (.tuple #[refV room v, .int .i64 16]) ∧ Below w.heap.size w w' := by
  have hfd : ∀ w, RefAt w v P → Calls Try.prog 40 #[refV room v, keyV k] w fun e w' => e = .returned (.int .i64 (A.length : Int)) ∧ Below w.heap.size w w' := fun w h => by
    rw [← hk]; rw [hP] at h hl hn; exact find_hit h hl hn
  have HP := Lib.hid hP; have HN := Lib.hid hn; have HK := Lib.hid hk
  have hip : A.length < P.length := by rw [hP]; simp
  have q0 : decide ((A.length : Int) < 0) = false := decide_eq_false (by omega)
  clear hP hn hk
  have hsh : ∃ a c, v = .slice a P.length c := by obtain ⟨a, c, he, _⟩ := h; exact ⟨a, c, he⟩
  obtain ⟨a, c, rfl⟩ := hsh
  have H := Lib.hid h
  clear h
  obtain ⟨k1, k2⟩ := k
  have HFD := Lib.hid hfd
  clear hfd
  unfold refV keyV
  unfold refV keyV at HFD
  go_enter Try.func22, Try.ntmps22
  go_wp2_with fail
  obtain ⟨w1, hw1⟩ : ∃ w1, w1 = ((w.alloc (.cells #[.int .i64 room, .slice a P.length c] 52)).alloc (.cells #[.int .i64 k1, .int .i64 k2] 55)).alloc (.cells #[.int .i64 0, .slice none 0 0] 52) := ⟨_, rfl⟩
  have bc : w1.heap[w.heap.size]? = some (.cells #[.int .i64 room, .slice a P.length c] 52 (0, 0)) := by rw [hw1]; exact blk_old (blk_old (blk_new rfl))
  have bk : w1.heap[w.heap.size + 1]? = some (.cells #[.int .i64 k1, .int .i64 k2] 55 (0, 0)) := by rw [hw1]; exact blk_old (blk_new (by simp))
  have br : w1.heap[w.heap.size + 1 + 1]? = some (.cells #[.int .i64 0, .slice none 0 0] 52 (0, 0)) := by rw [hw1]; exact blk_new (by simp)
  have hb1 : Below w.heap.size w w1 := by rw [hw1]; exact below_alloc (below_alloc (below_alloc (Below.refl _ w) (Nat.le_refl _) _) (Nat.le_refl _) _) (Nat.le_refl _) _
  rw [← hw1]
  clear hw1
  have hd1 : w.heap.size ≠ w.heap.size + 1 := by omega
  have hd2 : w.heap.size ≠ w.heap.size + 1 + 1 := by omega
  have hd3 : w.heap.size + 1 ≠ w.heap.size + 1 + 1 := by omega
  have hl1 : w.heap.size ≤ w.heap.size + 1 := by omega
  have hl2 : w.heap.size ≤ w.heap.size + 1 + 1 := by omega
  generalize w.heap.size + 1 + 1 = rb at br hd2 hd3 hl2 ⊢
  generalize w.heap.size + 1 = kb at bk hd1 hd3 hl1 ⊢
  generalize hcb : w.heap.size = cb at bc hb1 hd1 hd2 hl1 hl2 ⊢
  have H1 := Lib.hid (H.out.below (by rw [hcb]; exact hb1))
  have HCB := Lib.hid hcb
  clear hcb
  refine (HFD.out _ H1.out).mono ?_
  rintro e w2 ⟨rfl, hb2⟩
  have bc2 := blk_below hb2 (blk_lt bc) bc
  have bk2 := blk_below hb2 (blk_lt bk) bk
  have br2 := blk_below hb2 (blk_lt br) br
  have H2 := Lib.hid (H1.out.below hb2)
  have FB2 := Lib.hid (hb1.trans (hb2.mono (by have h1 := hb1.size; have h2 := HCB.out; omega)))
  clear bc bk br hb1 hb2 HFD H H1
  have BC2 := Lib.hid bc2; have BK2 := Lib.hid bk2; have BR2 := Lib.hid br2
  clear bc2 bk2 br2
  obtain ⟨a', c', he, hcap, hrow⟩ := H2.out
  obtain ⟨rfl, -, rfl⟩ := Value.slice.inj he
  obtain ⟨g, rfl, hg⟩ := hrow (by omega)
  have hb : P[A.length]? = some b := by rw [HP.out]; simp
  obtain ⟨⟨bk1, bk2⟩, bd, bdy, bp⟩ := b
  have m1 : (A.length : Int) < (P.length : Int) := by omega
  have m2 : (0 : Int) ≤ (A.length : Int) := by omega
  have d0 := hg.c0 _ _ hb
  have d1 := hg.c1 _ _ hb
  have d2 := hg.c2 _ _ hb
  have d3 := hg.c3 _ _ hb
  have d4 := hg.c4 _ _ hb
  simp only at d0 d1 d2 d3 d4
  have x0 : w2.cell? ⟨cb, 0, none⟩ = some (.int .i64 room) := cell_blk_some BC2.out rfl
  have x1 : w2.cell? ⟨cb, 1, none⟩ = some (.slice (some ⟨g, 0, none⟩) P.length c) := cell_blk_some BC2.out rfl
  have HG := Lib.hid hg
  clear he hrow hg hb
  go_upto_region 5 with fail
  obtain ⟨w3, hw3⟩ : ∃ w3, w3 = w2.alloc (.cells #[.int .i64 bk1, .int .i64 bk2, .string (strD bd), .bool bdy, .int .i64 bp] 86) := ⟨_, rfl⟩
  have bn3 : w3.heap[w2.heap.size]? = some (.cells #[.int .i64 bk1, .int .i64 bk2, .string (strD bd), .bool bdy, .int .i64 bp] 86 (0, 0)) := by rw [hw3]; exact blk_new rfl
  have f3 : Fr (fun x => w2.heap.size ≤ x) w2 w3 := by rw [hw3]; exact (Fr.refl _ w2).alloc _
  rw [← hw3]
  clear hw3 x0 x1 d0 d1 d2 d3 d4
  have nbc : cb < w2.heap.size := blk_lt BC2.out
  have nbr : rb < w2.heap.size := blk_lt BR2.out
  have gbc : g < w2.heap.size := HG.out.lt
  have nz3 := free_blk (i := 3) bn3
  have nz4 := free_blk (i := 4) bn3
  have n3 : w3.cell? ⟨w2.heap.size, 3, none⟩ = some (.bool bdy) := cell_blk_some bn3 rfl
  have n4 : w3.cell? ⟨w2.heap.size, 4, none⟩ = some (.int .i64 bp) := cell_blk_some bn3 rfl
  have bc3 := (f3.block cb nbc (by omega)).trans BC2.out
  have br3 := (f3.block rb nbr (by omega)).trans BR2.out
  have x0 : w3.cell? ⟨cb, 0, none⟩ = some (.int .i64 room) := cell_blk_some bc3 rfl
  have x1 : w3.cell? ⟨cb, 1, none⟩ = some (.slice (some ⟨g, 0, none⟩) P.length c) := cell_blk_some bc3 rfl
  have B3 := Lib.hid (FB2.out.trans (f3.toBelow (B := cb) (by omega) fun _ h => by omega))
  have BC3 := Lib.hid bc3; have BR3 := Lib.hid br3; have F3 := Lib.hid f3; have BN3 := Lib.hid bn3
  clear f3 bn3 bc3 br3
  have s2 : decide (0 < bp) = true := decide_eq_true h0
  have r0 : w3.cell? ⟨rb, 0, none⟩ = some (.int .i64 0) := cell_blk_some BR3.out rfl
  have r1 : w3.cell? ⟨rb, 1, none⟩ = some (.slice none 0 0) := cell_blk_some BR3.out rfl
  have z0 := free_blk (i := 0) BR3.out
  have z1 := free_blk (i := 1) BR3.out
  go_wp2_with fail
  have br6 := blk_set (i := 1) (blk_set (i := 0) BR3.out (.int .i64 room)) (.slice (some ⟨g, 0, none⟩) P.length c)
  refine bodyPost_ret (results_row_tmp rfl _ _ rb _ _ _ _ rfl br6 Try.underlying52 rfl (by kernel_rfl)) rfl ?_
  have hf : Fr (fun y => y = rb) w3 ((w3.setCell ⟨rb, 0, none⟩ (.int .i64 room)).setCell ⟨rb, 1, none⟩ (.slice (some ⟨g, 0, none⟩) P.length c)) := ((Fr.refl (fun y => y = rb) w3).setCell ⟨rb, 0, none⟩ rfl _).setCell ⟨rb, 1, none⟩ rfl _
  have hbe : Below w.heap.size w ((w3.setCell ⟨rb, 0, none⟩ (.int .i64 room)).setCell ⟨rb, 1, none⟩ (.slice (some ⟨g, 0, none⟩) P.length c)) := by
    rw [HCB.out]
    have h2 := HCB.out
    have h3 := B3.out.size
    exact B3.out.trans (hf.toBelow (B := cb) (by omega) fun y hy => by rw [show y = rb from hy]; exact hl2)
  exact ⟨rfl, hbe⟩
set_option maxHeartbeats 4000000 in
set_option maxRecDepth 100000 in
theorem refDo_drop {w : World} {v : Value} {P A B : List Pb} {b : Pb} {room : Int} {k : Int × Int} (h : RefAt w v P) (hl : P.length ≤ 100000) (hP : P = A ++ b :: B) (hn : (P.map (·.k)).Nodup) (hk : b.k = k) (h0 : b.pins = 0) :
    Calls Try.prog 22 #[refV room v, .int .i64 6, keyV k] w fun e w' => ∃ v', e = .returned (.tuple #[refV room v', .int .i64 0]) ∧ RefAt w' v' (A ++ B) ∧ Below w.heap.size w w' := by
  have hfd : ∀ w, RefAt w v P → Calls Try.prog 40 #[refV room v, keyV k] w fun e w' => e = .returned (.int .i64 (A.length : Int)) ∧ Below w.heap.size w w' := fun w h => by
    rw [← hk]; rw [hP] at h hl hn; exact find_hit h hl hn
  have HP := Lib.hid hP; have HN := Lib.hid hn; have HK := Lib.hid hk
  have hip : A.length < P.length := by rw [hP]; simp
  have q0 : decide ((A.length : Int) < 0) = false := decide_eq_false (by omega)
  have H0 := Lib.hid h0
  clear h0
  clear hP hn hk
  have hsh : ∃ a c, v = .slice a P.length c := by obtain ⟨a, c, he, _⟩ := h; exact ⟨a, c, he⟩
  obtain ⟨a, c, rfl⟩ := hsh
  have H := Lib.hid h
  clear h
  obtain ⟨k1, k2⟩ := k
  have HFD := Lib.hid hfd
  clear hfd
  unfold refV keyV
  unfold refV keyV at HFD
  go_enter Try.func22, Try.ntmps22
  go_wp2_with fail
  obtain ⟨w1, hw1⟩ : ∃ w1, w1 = ((w.alloc (.cells #[.int .i64 room, .slice a P.length c] 52)).alloc (.cells #[.int .i64 k1, .int .i64 k2] 55)).alloc (.cells #[.int .i64 0, .slice none 0 0] 52) := ⟨_, rfl⟩
  have bc : w1.heap[w.heap.size]? = some (.cells #[.int .i64 room, .slice a P.length c] 52 (0, 0)) := by rw [hw1]; exact blk_old (blk_old (blk_new rfl))
  have bk : w1.heap[w.heap.size + 1]? = some (.cells #[.int .i64 k1, .int .i64 k2] 55 (0, 0)) := by rw [hw1]; exact blk_old (blk_new (by simp))
  have br : w1.heap[w.heap.size + 1 + 1]? = some (.cells #[.int .i64 0, .slice none 0 0] 52 (0, 0)) := by rw [hw1]; exact blk_new (by simp)
  have hb1 : Below w.heap.size w w1 := by rw [hw1]; exact below_alloc (below_alloc (below_alloc (Below.refl _ w) (Nat.le_refl _) _) (Nat.le_refl _) _) (Nat.le_refl _) _
  rw [← hw1]
  clear hw1
  have hd1 : w.heap.size ≠ w.heap.size + 1 := by omega
  have hd2 : w.heap.size ≠ w.heap.size + 1 + 1 := by omega
  have hd3 : w.heap.size + 1 ≠ w.heap.size + 1 + 1 := by omega
  have hl1 : w.heap.size ≤ w.heap.size + 1 := by omega
  have hl2 : w.heap.size ≤ w.heap.size + 1 + 1 := by omega
  generalize w.heap.size + 1 + 1 = rb at br hd2 hd3 hl2 ⊢
  generalize w.heap.size + 1 = kb at bk hd1 hd3 hl1 ⊢
  generalize hcb : w.heap.size = cb at bc hb1 hd1 hd2 hl1 hl2 ⊢
  have H1 := Lib.hid (H.out.below (by rw [hcb]; exact hb1))
  have HCB := Lib.hid hcb
  clear hcb
  refine (HFD.out _ H1.out).mono ?_
  rintro e w2 ⟨rfl, hb2⟩
  have bc2 := blk_below hb2 (blk_lt bc) bc
  have bk2 := blk_below hb2 (blk_lt bk) bk
  have br2 := blk_below hb2 (blk_lt br) br
  have H2 := Lib.hid (H1.out.below hb2)
  have FB2 := Lib.hid (hb1.trans (hb2.mono (by have h1 := hb1.size; have h2 := HCB.out; omega)))
  clear bc bk br hb1 hb2 HFD H H1
  have BC2 := Lib.hid bc2; have BK2 := Lib.hid bk2; have BR2 := Lib.hid br2
  clear bc2 bk2 br2
  obtain ⟨a', c', he, hcap, hrow⟩ := H2.out
  obtain ⟨rfl, -, rfl⟩ := Value.slice.inj he
  obtain ⟨g, rfl, hg⟩ := hrow (by omega)
  have hb : P[A.length]? = some b := by rw [HP.out]; simp
  obtain ⟨⟨bk1, bk2⟩, bd, bdy, bp⟩ := b
  have m1 : (A.length : Int) < (P.length : Int) := by omega
  have m2 : (0 : Int) ≤ (A.length : Int) := by omega
  have d0 := hg.c0 _ _ hb
  have d1 := hg.c1 _ _ hb
  have d2 := hg.c2 _ _ hb
  have d3 := hg.c3 _ _ hb
  have d4 := hg.c4 _ _ hb
  simp only at d0 d1 d2 d3 d4
  have x0 : w2.cell? ⟨cb, 0, none⟩ = some (.int .i64 room) := cell_blk_some BC2.out rfl
  have x1 : w2.cell? ⟨cb, 1, none⟩ = some (.slice (some ⟨g, 0, none⟩) P.length c) := cell_blk_some BC2.out rfl
  have HG := Lib.hid hg
  clear he hrow hg hb
  go_upto_region 5 with fail
  obtain ⟨w3, hw3⟩ : ∃ w3, w3 = w2.alloc (.cells #[.int .i64 bk1, .int .i64 bk2, .string (strD bd), .bool bdy, .int .i64 bp] 86) := ⟨_, rfl⟩
  have bn3 : w3.heap[w2.heap.size]? = some (.cells #[.int .i64 bk1, .int .i64 bk2, .string (strD bd), .bool bdy, .int .i64 bp] 86 (0, 0)) := by rw [hw3]; exact blk_new rfl
  have f3 : Fr (fun x => w2.heap.size ≤ x) w2 w3 := by rw [hw3]; exact (Fr.refl _ w2).alloc _
  rw [← hw3]
  clear hw3 x0 x1 d0 d1 d2 d3 d4
  have nbc : cb < w2.heap.size := blk_lt BC2.out
  have nbr : rb < w2.heap.size := blk_lt BR2.out
  have gbc : g < w2.heap.size := HG.out.lt
  have nz3 := free_blk (i := 3) bn3
  have nz4 := free_blk (i := 4) bn3
  have n3 : w3.cell? ⟨w2.heap.size, 3, none⟩ = some (.bool bdy) := cell_blk_some bn3 rfl
  have n4 : w3.cell? ⟨w2.heap.size, 4, none⟩ = some (.int .i64 bp) := cell_blk_some bn3 rfl
  have bc3 := (f3.block cb nbc (by omega)).trans BC2.out
  have br3 := (f3.block rb nbr (by omega)).trans BR2.out
  have x0 : w3.cell? ⟨cb, 0, none⟩ = some (.int .i64 room) := cell_blk_some bc3 rfl
  have x1 : w3.cell? ⟨cb, 1, none⟩ = some (.slice (some ⟨g, 0, none⟩) P.length c) := cell_blk_some bc3 rfl
  have B3 := Lib.hid (FB2.out.trans (f3.toBelow (B := cb) (by omega) fun _ h => by omega))
  have BC3 := Lib.hid bc3; have BR3 := Lib.hid br3; have F3 := Lib.hid f3; have BN3 := Lib.hid bn3
  clear f3 bn3 bc3 br3
  obtain rfl : bp = 0 := H0.out
  have h3 := H2.out.below (F3.out.toBelow (Nat.le_refl _) fun _ h => h)
  have HW := Lib.hid (without_any (room := room) h3 hip hl)
  clear h3
  unfold refV at HW
  go_wp2_with fail
  refine HW.out.mono ?_
  rintro e w5 ⟨v5, rfl, h5, hb5⟩
  rw [HP.out, take_mid] at h5
  obtain ⟨a5, c5, hs5, hc5, hr5⟩ := h5
  subst hs5
  have br5 := blk_below hb5 (blk_lt BR3.out) BR3.out
  have hb6 := B3.out.trans (hb5.mono (by have h1 := B3.out.size; have h2 := HCB.out; omega))
  have z0 := free_blk (i := 0) br5
  have z1 := free_blk (i := 1) br5
  have h5 : RefAt w5 (.slice a5 (A ++ B).length c5) (A ++ B) := ⟨a5, c5, rfl, hc5, hr5⟩
  have H5 := Lib.hid h5; have B6 := Lib.hid hb6; have BR5 := Lib.hid br5
  clear hc5 hr5 br5 hb6 hb5 h5
  have r0 : w5.cell? ⟨rb, 0, none⟩ = some (.int .i64 0) := cell_blk_some BR5.out rfl
  have r1 : w5.cell? ⟨rb, 1, none⟩ = some (.slice none 0 0) := cell_blk_some BR5.out rfl
  generalize hR5 : A ++ B = R5 at H5 ⊢
  go_wp2_with fail
  have br6 := blk_set (i := 1) (blk_set (i := 0) BR5.out (.int .i64 room)) (.slice a5 R5.length c5)
  refine bodyPost_ret (results_row_tmp rfl _ _ rb _ _ _ _ rfl br6 Try.underlying52 rfl (by kernel_rfl)) rfl ?_
  have hf : Fr (fun y => y = rb) w5 ((w5.setCell ⟨rb, 0, none⟩ (.int .i64 room)).setCell ⟨rb, 1, none⟩ (.slice a5 R5.length c5)) := ((Fr.refl (fun y => y = rb) w5).setCell ⟨rb, 0, none⟩ rfl _).setCell ⟨rb, 1, none⟩ rfl _
  refine ⟨.slice a5 R5.length c5, rfl, ?_, ?_⟩
  · have hq : w5.cell? ⟨rb, 2, none⟩ = none := by rw [cell_blk BR5.out]; rfl
    subst hR5
    exact H5.out.off hq hf
  · rw [HCB.out]
    have h2 := HCB.out
    have h3 := B6.out.size
    exact B6.out.trans (hf.toBelow (B := cb) (by omega) fun y hy => by rw [show y = rb from hy]; exact hl2)
end Go.Proofs.Ytjldocpjoiibjaa
