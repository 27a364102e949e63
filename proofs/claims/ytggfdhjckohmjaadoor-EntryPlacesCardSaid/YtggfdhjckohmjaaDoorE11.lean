/- Walks of marlref07.ReadDir: what it reads of 64 bytes, and that it reads nothing of others. -/
import Derived.Test.YtggfdhjckohmjaaDoorE10
namespace Go.Proofs.YtggfdhjckohmjaaDoor
open Go.RowKit

theorem trimS_take {ns : List Int} {n : Nat} (hl : ns.length = 14) (hb : ∀ j, 0 ≤ ns.getD j 0 ∧ ns.getD j 0 ≤ 255) (hn : n ≤ 14) (hz : ∀ j, n ≤ j → ns.getD j 0 = 0) (h : 0 < n → ns.getD (n - 1) 0 ≠ 0) :
    strOfNums (ns.take n) = trimS ns := by
  have hg : ∀ (j : Nat) (b : UInt8), (strOfNums ns).data.toList[j]? = some b → b = UInt8.ofNat (ns.getD j 0).toNat := by
    intro j b hj
    rw [strOfNums_data, List.getElem?_map] at hj
    cases hk : ns[j]? with
    | none => rw [hk] at hj; cases hj
    | some y => rw [hk] at hj; simp only [Option.map_some, Option.some.injEq] at hj; rw [List.getD_eq_getElem?_getD, hk]; exact hj.symm
  have := Lib.trimRightB_take (strOfNums ns).data.toList 0 n (by rw [strOfNums_data, List.length_map]; omega)
    (fun j b hj hb' => by rw [hg j b hb', hz j hj]; rfl)
    (fun b h0 hb' => by
      rw [hg _ b hb']
      intro e
      have e1 := congrArg UInt8.toNat e
      simp only [UInt8.toNat_ofNat'] at e1
      have := hb (n - 1)
      have := h h0
      have e2 : UInt8.toNat 0 = 0 := rfl
      omega)
  unfold trimS
  rw [this, strOfNums_data, ← List.map_take]
  rfl

set_option maxHeartbeats 1000000 in
theorem refReadDir_any (xs : List Int) (hx : xs.length = 64) (hb : isBytes xs) (g o c : Nat) (hc : 64 ≤ c) (w : World) (hg : g < w.heap.size) (hcell : BytesAt w g o xs) :
    Calls Tryd.prog 19 #[.slice (some ⟨g, o, none⟩) 64 c] w (ReadPostD w (decD xs) xs) := by
  have hget : ∀ k, k < 4 → (flatD (decD xs))[k * 2]? = some (.int .i64 (xs.getD (16 * k) 0 + xs.getD (16 * k + 1) 0 * 256)) ∧ (flatD (decD xs))[k * 2 + 1]? = some (.string (trimS (seg xs k))) := by
    intro k hk
    have := flatD_get (decD xs) k (by rw [decD_length]; exact hk)
    have hd : (decD xs).getD k nilDE = (xs.getD (16 * k) 0 + xs.getD (16 * k + 1) 0 * 256, trimS (seg xs k)) := by
      simp [decD, List.getD_eq_getElem?_getD, List.getElem?_range hk]
    rw [hd] at this
    exact this
  have HSH := Lib.hid (decD_short xs)
  have HG := Lib.hid hget; clear hget
  have hfl : (flatD (decD xs)).length = 8 := by rw [flatD_length, decD_length]
  obtain ⟨L, hL⟩ : ∃ L, L = decD xs := ⟨_, rfl⟩
  have hLl : L.length = 4 := by rw [hL, decD_length]
  rw [← hL] at hfl HG HSH ⊢
  clear hL
  have HF := Lib.hid hfl; clear hfl
  have HL := Lib.hid hLl; clear hLl
  have HB := Lib.hid hb
  obtain ⟨Z, hZ⟩ : ∃ Z, Z = zsD.toArray := ⟨_, rfl⟩
  have HZ := Lib.hid hZ; clear hZ
  have HC := Lib.hid hcell; clear hcell
  have HX := Lib.hid hx; clear hx
  go_enter Tryd.func19, Tryd.ntmps19
  go_wp2_with fail
  go_loopw [5, 6] (fun i _ wr => ∃ k : Nat, k ≤ 4 ∧ i = .int .i64 k ∧ (∃ C, wr.heap[w.heap.size]? = some (.cells C 44 (0, 0)) ∧ C.size = 8) ∧ wr.heap[w.heap.size + 1]? = some (.cells (fill (flatD L) zsD (k * 2)).toArray 44 (0, 0)) ∧ Below w.heap.size w wr)
    (fun i _ _ => 4 - (intOf i).toNat)
  case atStart => exact ⟨0, by omega, rfl, ⟨_, blk_old (blk_new rfl), rfl⟩, blk_new (by simp), ((Below.refl _ _).alloc (Nat.le_refl _) _).alloc (by simp) _⟩
  case round =>
    obtain ⟨k, hk, rfl, ⟨C, h0, hC⟩, h1, hnx⟩ := hrel
    by_cases hlt : k < 4
    · have hxl := HX.out
      have G := HG.out k hlt
      have hl := fill_length (flatD L) zsD (k * 2) (by rw [HF.out]; rfl)
      have hl8 := HF.out
      have hbw := bytes_below HC.out hnx hg
      have c0 := hbw (16 * k) (by omega)
      have c1 := hbw (16 * k + 1) (by omega)
      have hseg := seg_at HX.out hlt hbw
      have hsl : (seg xs k).length = 14 := seg_length HX.out hlt
      obtain ⟨l0, u0⟩ := hb (16 * k)
      obtain ⟨l1, u1⟩ := hb (16 * k + 1)
      generalize xs.getD (16 * k) 0 = x0 at *
      generalize xs.getD (16 * k + 1) 0 = x1 at *
      have hsb : ∀ j, 0 ≤ (seg xs k).getD j 0 ∧ (seg xs k).getD j 0 ≤ 255 := by
        intro j
        by_cases hj : j < 14
        · have := hb (16 * k + 2 + j)
          simpa only [seg, List.getD_eq_getElem?_getD, List.getElem?_take, List.getElem?_drop, if_pos hj] using this
        · rw [List.getD_eq_getElem?_getD, List.getElem?_eq_none (by omega)]; simp
      have HSB := Lib.hid hsb
      have HSEG := Lib.hid hseg
      have HSL := Lib.hid hsl
      clear hseg hsl hbw hsb
      have G' := Lib.hid G; clear G
      clear hb hxl
      have ex : ∀ i, i < 8 → ∃ u, wr.cell? ⟨w.heap.size + 1, i, none⟩ = some u := fun i hi => ⟨_, cell_blk_some h1 (by rw [List.getElem?_toArray]; exact List.getElem?_eq_getElem (by omega))⟩
      obtain ⟨y0, y0'⟩ := ex (k * 2) (by omega)
      obtain ⟨y1, y1'⟩ := ex (k * 2 + 1) (by omega)
      have f0 := free_blk (i := k * 2) h1
      have f1 := free_blk (i := k * 2 + 1) h1
      have sz := blk_lt h1
      have R0 := Lib.hid h0; clear h0
      have R1 := Lib.hid h1; clear h1
      clear ex hl hl8
      have hcc := hc
      go_wp2_with fail
      go_loop [6] (fun t => ∃ n : Nat, n ≤ 14 ∧ t = .int .i64 n ∧ ∀ j, n ≤ j → (seg xs k).getD j 0 = 0) (fun t => (intOf t).toNat)
      case atStart => exact ⟨14, by omega, rfl, fun j hj => by rw [List.getD_eq_getElem?_getD, List.getElem?_eq_none (by have := HSL.out; omega)]; rfl⟩
      case round =>
        obtain ⟨n, hn, rfl, hz⟩ := hrel
        by_cases hn0 : 0 < n
        · have cn := HSEG.out (n - 1) (by have := HSL.out; omega)
          rw [show o + 16 * k + 2 + (n - 1) = o + (16 * k + 1 + n) by omega] at cn
          obtain ⟨lx, ux⟩ := HSB.out (n - 1)
          have HZ2 := Lib.hid hz; clear hz
          obtain ⟨x, hx⟩ : ∃ x, x = (seg xs k).getD (n - 1) 0 := ⟨_, rfl⟩
          rw [← hx] at cn lx ux
          have HXX := Lib.hid hx; clear hx
          by_cases hx0 : x = 0
          · have z : (x == 0) = true := beq_iff_eq.2 hx0
            have HX0 := Lib.hid hx0; clear hx0
            go_wp2_with fail
            go_round
            case rel =>
              refine ⟨n - 1, by omega, by congr 1; omega, fun j hj => ?_⟩
              by_cases hjn : j = n - 1
              · rw [hjn, ← HXX.out, HX0.out]
              · exact HZ2.out j (by omega)
            case measure => simp [intOf]; omega
          · have z : (x == 0) = false := beq_eq_false_iff_ne.2 hx0
            have HX0 := Lib.hid hx0; clear hx0
            have hxn : strOfNums ((seg xs k).take n) = trimS (seg xs k) := trimS_take HSL.out HSB.out hn HZ2.out (fun _ => by rw [← HXX.out]; exact HX0.out)
            have hcv := strOf_bytes wr.drew g (o + (16 * k + 2)) ((seg xs k).take n) (fun i hi => by
              have h1 : i < n := by rw [List.length_take] at hi; omega
              have h2 := HSEG.out i (by have := HSL.out; omega)
              rw [List.getD_eq_getElem?_getD, List.getElem?_take, if_pos h1, ← List.getD_eq_getElem?_getD]
              rw [← Nat.add_assoc o]; exact h2) (c - (16 * k + 2))
            have hc2 : ¬ (c = 16 * k + 2) := by omega
            rw [hxn, List.length_take, HSL.out, Nat.min_eq_left hn] at hcv
            have HXN := Lib.hid hxn; clear hxn
            go_wp2_with fail
            clear z
            have v0 : IntKind.i64.wrap (16 * (k : Int)) = 16 * (k : Int) := IntWalk.i64_in _ (by omega)
            have v1 : IntKind.i64.wrap (16 * (k : Int) + 1) = 16 * (k : Int) + 1 := IntWalk.i64_in _ (by omega)
            have v2 : IntKind.i64.wrap (16 * (k : Int) + 2) = 16 * (k : Int) + 2 := IntWalk.i64_in _ (by omega)
            have v3 : IntKind.i64.wrap (16 * (k : Int) + 2 + (n : Int)) = 16 * (k : Int) + 2 + (n : Int) := IntWalk.i64_in _ (by omega)
            have w0 : IntKind.i64.wrap x0 = x0 := IntWalk.i64_in _ (by omega)
            have w1 : IntKind.i64.wrap x1 = x1 := IntWalk.i64_in _ (by omega)
            have m1 : IntKind.i64.wrap (256 * x1) = x1 * 256 := by rw [Int.mul_comm]; exact IntWalk.i64_in _ (by omega)
            have t1 : IntKind.i64.wrap (x0 + x1 * 256) = x0 + x1 * 256 := IntWalk.i64_in _ (by omega)
            have n0 : 0 ≤ 16 * (k : Int) := by omega
            have n1 : 0 ≤ 16 * (k : Int) + 1 := by omega
            have n2 : 0 ≤ 16 * (k : Int) + 2 := by omega
            have n3 : 0 ≤ 16 * (k : Int) + 2 + (n : Int) := by omega
            have b0 : 16 * (k : Int) < 64 := by omega
            have b1 : 16 * (k : Int) + 1 < 64 := by omega
            have b2 : 16 * (k : Int) + 2 ≤ 16 * (k : Int) + 2 + (n : Int) := by omega
            have b3 : 16 * (k : Int) + 2 + (n : Int) ≤ (c : Int) := by omega
            have e0 : (16 * (k : Int)).toNat = 16 * k := by omega
            have e1 : (16 * (k : Int) + 1).toNat = 16 * k + 1 := by omega
            have e2 : (16 * (k : Int) + 2).toNat = 16 * k + 2 := by omega
            have e3 : (16 * (k : Int) + 2 + (n : Int)).toNat = 16 * k + 2 + n := by omega
            go_still_tail 29, (by kernel_rfl)
            try refine wpStill_nil ?_
            clear v0 v1 v2 v3 w0 w1 m1 t1 n0 n1 n2 n3 b0 b1 b2 b3 e0 e1 e2 e3 hc2 hcv
            go_wp2_with fail
            go_roundw
            case rel =>
              obtain ⟨G0, G1⟩ := G'.out
              refine ⟨k + 1, by omega, by go_num, ⟨C, ?_, hC⟩, ?_, ?_⟩
              · exact blk_set_other (blk_set_other R0.out (by simp) _) (by simp) _
              · have := blk_set (i := k * 2 + 1) (blk_set (i := k * 2) R1.out (.int .i64 (x0 + x1 * 256))) (.string (trimS (seg xs k)))
                rw [fill_set _ _ _ (by rw [HF.out]; rfl) (by rw [HF.out]; omega) _ G0, fill_set _ _ _ (by rw [HF.out]; rfl) (by rw [HF.out]; omega) _ G1] at this
                rw [show (k + 1) * 2 = k * 2 + 1 + 1 by omega]
                exact this
              · exact ((hnx.setCell (by simp) _).setCell (by simp) _).drew
            case measure => simp [intOf]; omega
        · have HZ2 := Lib.hid hz; clear hz
          obtain rfl : n = 0 := by omega
          have hxn : strOfNums ((seg xs k).take 0) = trimS (seg xs k) := trimS_take HSL.out HSB.out (Nat.zero_le 14) HZ2.out (fun h => absurd h (by omega))
          have hcv := strOf_bytes wr.drew g (o + (16 * k + 2)) ((seg xs k).take 0) (fun i hi => by
            have h1 : i < 0 := by rw [List.length_take] at hi; omega
            have h2 := HSEG.out i (by have := HSL.out; omega)
            rw [List.getD_eq_getElem?_getD, List.getElem?_take, if_pos h1, ← List.getD_eq_getElem?_getD]
            rw [← Nat.add_assoc o]; exact h2) (c - (16 * k + 2))
          have hc2 : ¬ (c = 16 * k + 2) := by omega
          rw [hxn, List.length_take, HSL.out, Nat.zero_min] at hcv
          have HXN := Lib.hid hxn; clear hxn
          go_wp2_with fail
          have v0 : IntKind.i64.wrap (16 * (k : Int)) = 16 * (k : Int) := IntWalk.i64_in _ (by omega)
          have v1 : IntKind.i64.wrap (16 * (k : Int) + 1) = 16 * (k : Int) + 1 := IntWalk.i64_in _ (by omega)
          have v2 : IntKind.i64.wrap (16 * (k : Int) + 2) = 16 * (k : Int) + 2 := IntWalk.i64_in _ (by omega)
          have w0 : IntKind.i64.wrap x0 = x0 := IntWalk.i64_in _ (by omega)
          have w1 : IntKind.i64.wrap x1 = x1 := IntWalk.i64_in _ (by omega)
          have m1 : IntKind.i64.wrap (256 * x1) = x1 * 256 := by rw [Int.mul_comm]; exact IntWalk.i64_in _ (by omega)
          have t1 : IntKind.i64.wrap (x0 + x1 * 256) = x0 + x1 * 256 := IntWalk.i64_in _ (by omega)
          have n0 : 0 ≤ 16 * (k : Int) := by omega
          have n1 : 0 ≤ 16 * (k : Int) + 1 := by omega
          have n2 : 0 ≤ 16 * (k : Int) + 2 := by omega
          have b0 : 16 * (k : Int) < 64 := by omega
          have b1 : 16 * (k : Int) + 1 < 64 := by omega
          have b3 : 16 * (k : Int) + 2 ≤ (c : Int) := by omega
          have e0 : (16 * (k : Int)).toNat = 16 * k := by omega
          have e1 : (16 * (k : Int) + 1).toNat = 16 * k + 1 := by omega
          have e2 : (16 * (k : Int) + 2).toNat = 16 * k + 2 := by omega
          go_still_tail 29, (by kernel_rfl)
          try refine wpStill_nil ?_
          clear v0 v1 v2 w0 w1 m1 t1 n0 n1 n2 b0 b1 b3 e0 e1 e2 hc2 hcv
          go_wp2_with fail
          go_roundw
          case rel =>
            obtain ⟨G0, G1⟩ := G'.out
            refine ⟨k + 1, by omega, by go_num, ⟨C, ?_, hC⟩, ?_, ?_⟩
            · exact blk_set_other (blk_set_other R0.out (by simp) _) (by simp) _
            · have := blk_set (i := k * 2 + 1) (blk_set (i := k * 2) R1.out (.int .i64 (x0 + x1 * 256))) (.string (trimS (seg xs k)))
              rw [fill_set _ _ _ (by rw [HF.out]; rfl) (by rw [HF.out]; omega) _ G0, fill_set _ _ _ (by rw [HF.out]; rfl) (by rw [HF.out]; omega) _ G1] at this
              rw [show (k + 1) * 2 = k * 2 + 1 + 1 by omega]
              exact this
            · exact ((hnx.setCell (by simp) _).setCell (by simp) _).drew
          case measure => simp [intOf]; omega
    · obtain rfl : k = 4 := by omega
      have hf := HF.out
      rw [show 4 * 2 = (flatD L).length by omega, fill_all _ _ (by rw [hf]; rfl)] at h1
      have hone := flatD_one L
      have hsz : (flatD L).toArray.size = 8 := by simpa using hf
      have hmb := refDirBlock_any L HL.out HSH.out wr
      clear hb hf
      obtain ⟨Y, hY⟩ : ∃ Y, Y = (flatD L).toArray := ⟨_, rfl⟩
      rw [← hY] at h1 hone hsz hmb
      have HY := Lib.hid hY; clear hY
      have HM := Lib.hid hmb; clear hmb
      go_wp2_with (refine wpList_load_row rfl 44 _ rfl _ rfl 44 _ _ _ h1 Tryd.underlying44 rfl (by rw [hsz]; kernel_rfl) ?_)
      refine HM.out.mono ?_
      rintro e w1 ⟨ha, hn, hb1⟩
      have h1' := blk_below hb1 (blk_lt h1) h1
      have h0' := blk_below hb1 (blk_lt h0) h0
      have hbel := below_call hnx hb1 (Nat.le_refl _)
      have hlen := HX.out
      have hcv2 := strOf_bytes w1 g o xs (bytes_below (bytes_below HC.out hnx hg) hb1 (Nat.lt_of_lt_of_le hg hnx.size)) c
      rw [hlen] at hcv2
      clear hlen h0 h1 hb1 hnx HG HM
      by_cases hok : allOkD L
      · obtain rfl := ha hok
        clear ha hn
        by_cases heq : dirBytes L = xs
        · rw [heq]
          have HE := Lib.hid heq; clear heq
          go_wp2_with (first | (refine wpList_load_row rfl 44 _ rfl _ rfl 44 _ _ _ h1' Tryd.underlying44 rfl (by rw [hsz]; kernel_rfl) ?_) | (refine wpList_store_row rfl 44 _ _ rfl _ _ rfl rfl 44 _ h0' (by rw [hsz]; kernel_rfl) (by rw [hC, hsz]) hone ?_))
          refine bodyPost_ret (v := .tuple #[.agg Y, .int .i64 0]) (results_row_tmp (p := 2) (u := 3) rfl _ _ _ _ Y (0, 0) _ rfl (setRow_heap _ _ _ _ _ _ h0') Tryd.underlying44 rfl (by rw [hsz]; kernel_rfl)) rfl ⟨fun _ => by rw [HY.out], fun h => absurd ⟨hok, HE.out⟩ h, ?_⟩
          exact below_setRow hbel (by omega) _
        · have hne : ((strOfNums (dirBytes L)).toList == (strOfNums xs).toList) = false := strOfNums_ne (isBytes_dirBytes L hok) HB.out heq
          have HE := Lib.hid heq; clear heq
          go_wp2_with (first | (refine wpList_store_row rfl 44 _ _ rfl _ _ rfl rfl 44 _ h0' (by kernel_rfl) (by rw [hC]; rfl) (by simp [Value.oneCell']) ?_))
          refine bodyPost_ret (v := .tuple #[.agg zsD.toArray, .int .i64 100]) (results_row_tmp (p := 2) (u := 3) rfl _ _ _ _ _ (0, 0) _ rfl (setRow_heap _ _ _ _ _ _ h0') Tryd.underlying44 rfl (by kernel_rfl)) rfl ⟨fun h => absurd h.2 HE.out, fun _ => rfl, ?_⟩
          exact below_setRow hbel (by omega) _
      · obtain rfl := hn hok
        clear ha hn
        have HN := Lib.hid hok; clear hok
        go_wp2_with (first | (refine wpList_store_row rfl 44 _ _ rfl _ _ rfl rfl 44 _ h0' (by kernel_rfl) (by rw [hC]; rfl) (by simp [Value.oneCell']) ?_))
        refine bodyPost_ret (v := .tuple #[.agg zsD.toArray, .int .i64 100]) (results_row_tmp (p := 2) (u := 3) rfl _ _ _ _ _ (0, 0) _ rfl (setRow_heap _ _ _ _ _ _ h0') Tryd.underlying44 rfl (by kernel_rfl)) rfl ⟨fun h => absurd h.1 HN.out, fun _ => rfl, ?_⟩
        exact below_setRow hbel (by omega) _

theorem refReadDir_short (ao : Option Addr) (n c : Nat) (hn : n ≠ 64) (_hn2 : n ≤ 140737488355328) (w : World) :
    Calls Tryd.prog 19 #[.slice ao n c] w fun e w' => e = .returned (.tuple #[.agg zsD.toArray, .int .i64 100]) ∧ Below w.heap.size w w' := by
  have q : ((n : Int) != 64) = true := by rw [bne_iff_ne]; omega
  clear hn
  go_enter Tryd.func19, Tryd.ntmps19
  go_wp2
  refine bodyPost_ret (v := .tuple #[.agg zsD.toArray, .int .i64 100]) (results_row_tmp (p := 2) (u := 3) rfl _ _ _ _ _ (0, 0) _ rfl (blk_old (blk_new rfl)) Tryd.underlying44 rfl (by kernel_rfl)) rfl ⟨rfl, ?_⟩
  exact ((Below.refl _ _).alloc (Nat.le_refl _) _).alloc (by simp) _
end Go.Proofs.YtggfdhjckohmjaaDoor
