/- Walks of marlref07.ReadMap: made by program out of those of entry.ReadMap. -/
import Derived.Test.YtggfdhjckohmjaaDoorE3
namespace Go.Proofs.YtggfdhjckohmjaaDoor
open Go.RowKit

theorem refReadMap_any (xs : List Int) (hx : xs.length = 64) (hb : isBytes xs) (g o c : Nat) (_hc : 64 ≤ c) (w : World) (hg : g < w.heap.size) (hcell : BytesAt w g o xs) :
    Calls Tryd.prog 18 #[.slice (some ⟨g, o, none⟩) 64 c] w (ReadPost w (decR xs) xs) := by
  have hget : ∀ k, k < 8 → (flatM (decR xs))[k * 2]? = some (.int .i64 (xs.getD (8 * k) 0 + xs.getD (8 * k + 1) 0 * 256)) ∧ (flatM (decR xs))[k * 2 + 1]? = some (.int .i64 (xs.getD (8 * k + 4) 0 + xs.getD (8 * k + 5) 0 * 256)) := by
    intro k hk
    have := flatM_get (decR xs) k (by rw [decR_length]; exact hk)
    have hd : (decR xs).getD k (0, 0) = (xs.getD (8 * k) 0 + xs.getD (8 * k + 1) 0 * 256, xs.getD (8 * k + 4) 0 + xs.getD (8 * k + 5) 0 * 256) := by
      simp [decR, List.getD_eq_getElem?_getD, List.getElem?_range hk]
    rw [hd] at this
    exact this
  have HG := Lib.hid hget; clear hget
  have hfl : (flatM (decR xs)).length = 16 := by rw [flatM_length, decR_length]
  obtain ⟨L, hL⟩ : ∃ L, L = decR xs := ⟨_, rfl⟩
  have hLl : L.length = 8 := by rw [hL, decR_length]
  rw [← hL] at hfl HG ⊢
  clear hL
  have HF := Lib.hid hfl; clear hfl
  have HL := Lib.hid hLl; clear hLl
  have HB := Lib.hid hb
  obtain ⟨Z, hZ⟩ : ∃ Z, Z = zs16.toArray := ⟨_, rfl⟩
  have HZ := Lib.hid hZ; clear hZ
  have HC := Lib.hid hcell; clear hcell
  have HX := Lib.hid hx; clear hx
  go_enter Tryd.func18, Tryd.ntmps18
  go_wp2_with fail
  go_loopw [5] (fun i wr => ∃ k : Nat, k ≤ 8 ∧ i = .int .i64 k ∧ (∃ C, wr.heap[w.heap.size]? = some (.cells C 33 (0, 0)) ∧ C.size = 16) ∧ wr.heap[w.heap.size + 1]? = some (.cells (fill (flatM L) zs16 (k * 2)).toArray 33 (0, 0)) ∧ Below w.heap.size w wr)
    (fun i _ => 8 - (intOf i).toNat)
  case atStart => exact ⟨0, by omega, rfl, ⟨_, blk_old (blk_new rfl), rfl⟩, blk_new (by simp), ((Below.refl _ _).alloc (Nat.le_refl _) _).alloc (by simp) _⟩
  case round =>
    obtain ⟨k, hk, rfl, ⟨C, h0, hC⟩, h1, hnx⟩ := hrel
    by_cases hlt : k < 8
    · have hxl := HX.out
      have G := HG.out k hlt
      have hl := fill_length (flatM L) zs16 (k * 2) (by rw [HF.out]; rfl)
      have hl16 := HF.out
      have c0 := (hnx.cell (p := ⟨g, o + 8 * k, none⟩) hg).trans (HC.out (8 * k) (by omega))
      have c1 := (hnx.cell (p := ⟨g, o + (8 * k + 1), none⟩) hg).trans (HC.out (8 * k + 1) (by omega))
      have c4 := (hnx.cell (p := ⟨g, o + (8 * k + 4), none⟩) hg).trans (HC.out (8 * k + 4) (by omega))
      have c5 := (hnx.cell (p := ⟨g, o + (8 * k + 5), none⟩) hg).trans (HC.out (8 * k + 5) (by omega))
      obtain ⟨l0, u0⟩ := hb (8 * k)
      obtain ⟨l1, u1⟩ := hb (8 * k + 1)
      obtain ⟨l4, u4⟩ := hb (8 * k + 4)
      obtain ⟨l5, u5⟩ := hb (8 * k + 5)
      generalize xs.getD (8 * k) 0 = x0 at *
      generalize xs.getD (8 * k + 1) 0 = x1 at *
      generalize xs.getD (8 * k + 4) 0 = x4 at *
      generalize xs.getD (8 * k + 5) 0 = x5 at *
      have G' := Lib.hid G; clear G
      clear hb hxl
      have ex : ∀ i, i < 16 → ∃ u, wr.cell? ⟨w.heap.size + 1, i, none⟩ = some u := fun i hi => ⟨_, cell_blk_some h1 (by rw [List.getElem?_toArray]; exact List.getElem?_eq_getElem (by omega))⟩
      obtain ⟨y0, y0'⟩ := ex (k * 2) (by omega)
      obtain ⟨y1, y1'⟩ := ex (k * 2 + 1) (by omega)
      have f0 := free_blk (i := k * 2) h1
      have f1 := free_blk (i := k * 2 + 1) h1
      have sz := blk_lt h1
      have R0 := Lib.hid h0; clear h0
      have R1 := Lib.hid h1; clear h1
      clear ex hl hl16
      have w0 : IntKind.i64.wrap x0 = x0 := IntWalk.i64_in _ (by omega)
      have w1 : IntKind.i64.wrap x1 = x1 := IntWalk.i64_in _ (by omega)
      have w4 : IntKind.i64.wrap x4 = x4 := IntWalk.i64_in _ (by omega)
      have w5 : IntKind.i64.wrap x5 = x5 := IntWalk.i64_in _ (by omega)
      have m1 : IntKind.i64.wrap (256 * x1) = x1 * 256 := by rw [Int.mul_comm]; exact IntWalk.i64_in _ (by omega)
      have m5 : IntKind.i64.wrap (256 * x5) = x5 * 256 := by rw [Int.mul_comm]; exact IntWalk.i64_in _ (by omega)
      have t1 : IntKind.i64.wrap (x0 + x1 * 256) = x0 + x1 * 256 := IntWalk.i64_in _ (by omega)
      have t5 : IntKind.i64.wrap (x4 + x5 * 256) = x4 + x5 * 256 := IntWalk.i64_in _ (by omega)
      have v0 : IntKind.i64.wrap (8 * (k : Int)) = 8 * (k : Int) := IntWalk.i64_in _ (by omega)
      have v1 : IntKind.i64.wrap (8 * (k : Int) + 1) = 8 * (k : Int) + 1 := IntWalk.i64_in _ (by omega)
      have v4 : IntKind.i64.wrap (8 * (k : Int) + 4) = 8 * (k : Int) + 4 := IntWalk.i64_in _ (by omega)
      have v5 : IntKind.i64.wrap (8 * (k : Int) + 5) = 8 * (k : Int) + 5 := IntWalk.i64_in _ (by omega)
      have n0 : 0 ≤ 8 * (k : Int) := by omega
      have n1 : 0 ≤ 8 * (k : Int) + 1 := by omega
      have n4 : 0 ≤ 8 * (k : Int) + 4 := by omega
      have n5 : 0 ≤ 8 * (k : Int) + 5 := by omega
      have b0 : 8 * (k : Int) < 64 := by omega
      have b1 : 8 * (k : Int) + 1 < 64 := by omega
      have b4 : 8 * (k : Int) + 4 < 64 := by omega
      have b5 : 8 * (k : Int) + 5 < 64 := by omega
      have e0 : (8 * (k : Int)).toNat = 8 * k := by omega
      have e1 : (8 * (k : Int) + 1).toNat = 8 * k + 1 := by omega
      have e4 : (8 * (k : Int) + 4).toNat = 8 * k + 4 := by omega
      have e5 : (8 * (k : Int) + 5).toNat = 8 * k + 5 := by omega
      go_wp2_with fail
      go_still_tail 34, (by kernel_rfl)
      clear v0 v1 v4 v5 n0 n1 n4 n5 b0 b1 b4 b5 e0 e1 e4 e5
      go_wp2_with fail
      go_roundw
      case rel =>
        obtain ⟨G0, G1⟩ := G'.out
        refine ⟨k + 1, by omega, by go_num, ⟨C, ?_, hC⟩, ?_, ?_⟩
        · exact blk_set_other (blk_set_other R0.out (by simp) _) (by simp) _
        · have := blk_set (i := k * 2 + 1) (blk_set (i := k * 2) R1.out (.int .i64 (x0 + x1 * 256))) (.int .i64 (x4 + x5 * 256))
          rw [fill_set _ _ _ (by rw [HF.out]; rfl) (by rw [HF.out]; omega) _ G0, fill_set _ _ _ (by rw [HF.out]; rfl) (by rw [HF.out]; omega) _ G1] at this
          rw [show (k + 1) * 2 = k * 2 + 1 + 1 by omega]
          exact this
        · exact ((hnx.setCell (by simp) _).setCell (by simp) _).drew
      case measure => simp [intOf]; omega
    · obtain rfl : k = 8 := by omega
      have hf := HF.out
      rw [show 8 * 2 = (flatM L).length by omega, fill_all _ _ (by rw [hf]; rfl)] at h1
      have hone : (flatM L).toArray.all (·.oneCell') = true := by
        refine all_oneCell_toArray fun v hv => ?_
        obtain ⟨p, _, hv⟩ := List.mem_flatMap.1 hv
        rcases List.mem_cons.1 hv with rfl | hv
        · rfl
        · obtain rfl := List.mem_singleton.1 hv; rfl
      have hsz : (flatM L).toArray.size = 16 := by simpa using hf
      have hmb := refMapBlock_any L HL.out wr
      clear hb hf
      obtain ⟨Y, hY⟩ : ∃ Y, Y = (flatM L).toArray := ⟨_, rfl⟩
      rw [← hY] at h1 hone hsz hmb
      have HY := Lib.hid hY; clear hY
      have HM := Lib.hid hmb; clear hmb
      go_wp2_with (refine wpList_load_row rfl 33 _ rfl _ rfl 33 _ _ _ h1 Tryd.underlying33 rfl (by rw [hsz]; kernel_rfl) ?_)
      refine HM.out.mono ?_
      rintro e w1 ⟨ha, hn, hb1⟩
      have h1' := blk_below hb1 (blk_lt h1) h1
      have h0' := blk_below hb1 (blk_lt h0) h0
      have hbel := below_call hnx hb1 (Nat.le_refl _)
      have hlen := HX.out
      have hcv2 := strOf_bytes w1 g o xs (bytes_below (bytes_below HC.out hnx hg) hb1 (Nat.lt_of_lt_of_le hg hnx.size)) c
      rw [hlen] at hcv2
      clear hlen h0 h1 hb1 hnx HG HM
      by_cases hok : allOkM L
      · obtain rfl := ha hok
        clear ha hn
        by_cases heq : mapBytes L = xs
        · rw [heq]
          have HE := Lib.hid heq; clear heq
          go_wp2_with (first | (refine wpList_load_row rfl 33 _ rfl _ rfl 33 _ _ _ h1' Tryd.underlying33 rfl (by rw [hsz]; kernel_rfl) ?_) | (refine wpList_store_row rfl 33 _ _ rfl _ _ rfl rfl 33 _ h0' (by rw [hsz]; kernel_rfl) (by rw [hC, hsz]) hone ?_))
          refine bodyPost_ret (v := .tuple #[.agg Y, .int .i64 0]) (results_row_tmp (p := 2) (u := 3) rfl _ _ _ _ Y (0, 0) _ rfl (setRow_heap _ _ _ _ _ _ h0') Tryd.underlying33 rfl (by rw [hsz]; kernel_rfl)) rfl ⟨fun _ => by rw [HY.out], fun h => absurd ⟨hok, HE.out⟩ h, ?_⟩
          exact below_setRow hbel (by omega) _
        · have hne : ((strOfNums (mapBytes L)).toList == (strOfNums xs).toList) = false := strOfNums_ne (isBytes_mapBytes L hok) HB.out heq
          have HE := Lib.hid heq; clear heq
          go_wp2_with (first | (refine wpList_store_row rfl 33 _ _ rfl _ _ rfl rfl 33 _ h0' (by kernel_rfl) (by rw [hC]; rfl) (by simp [Value.oneCell']) ?_))
          refine bodyPost_ret (v := .tuple #[.agg zs16.toArray, .int .i64 100]) (results_row_tmp (p := 2) (u := 3) rfl _ _ _ _ _ (0, 0) _ rfl (setRow_heap _ _ _ _ _ _ h0') Tryd.underlying33 rfl (by kernel_rfl)) rfl ⟨fun h => absurd h.2 HE.out, fun _ => rfl, ?_⟩
          exact below_setRow hbel (by omega) _
      · obtain rfl := hn hok
        clear ha hn
        have HN := Lib.hid hok; clear hok
        go_wp2_with (first | (refine wpList_store_row rfl 33 _ _ rfl _ _ rfl rfl 33 _ h0' (by kernel_rfl) (by rw [hC]; rfl) (by simp [Value.oneCell']) ?_))
        refine bodyPost_ret (v := .tuple #[.agg zs16.toArray, .int .i64 100]) (results_row_tmp (p := 2) (u := 3) rfl _ _ _ _ _ (0, 0) _ rfl (setRow_heap _ _ _ _ _ _ h0') Tryd.underlying33 rfl (by kernel_rfl)) rfl ⟨fun h => absurd h.1 HN.out, fun _ => rfl, ?_⟩
        exact below_setRow hbel (by omega) _

theorem refReadMap_short (ao : Option Addr) (n c : Nat) (hn : n ≠ 64) (_hn2 : n ≤ 140737488355328) (w : World) :
    Calls Tryd.prog 18 #[.slice ao n c] w fun e w' => e = .returned (.tuple #[.agg zs16.toArray, .int .i64 100]) ∧ Below w.heap.size w w' := by
  have q : ((n : Int) != 64) = true := by rw [bne_iff_ne]; omega
  clear hn
  go_enter Tryd.func18, Tryd.ntmps18
  go_wp2
  refine bodyPost_ret (v := .tuple #[.agg zs16.toArray, .int .i64 100]) (results_row_tmp (p := 2) (u := 3) rfl _ _ _ _ _ (0, 0) _ rfl (blk_old (blk_new rfl)) Tryd.underlying33 rfl (by kernel_rfl)) rfl ⟨rfl, ?_⟩
  exact ((Below.refl _ _).alloc (Nat.le_refl _) _).alloc (by simp) _
end Go.Proofs.YtggfdhjckohmjaaDoor
