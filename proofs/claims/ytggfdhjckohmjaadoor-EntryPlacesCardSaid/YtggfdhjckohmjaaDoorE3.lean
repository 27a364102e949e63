/- Walks of entry.ReadMap and marlref07.ReadMap: what each reads of 64 bytes, and that it reads nothing of others. -/
import Derived.Test.YtggfdhjckohmjaaDoorE2
namespace Go.Proofs.YtggfdhjckohmjaaDoor
open Go.RowKit

def BytesAt (w : World) (g o : Nat) (xs : List Int) : Prop := ∀ i, i < xs.length → w.cell? ⟨g, o + i, none⟩ = some (.int .u8 (xs.getD i 0))
def isBytes (xs : List Int) : Prop := ∀ i, 0 ≤ xs.getD i 0 ∧ xs.getD i 0 ≤ 255

theorem strOf_bytes (w : World) (g o : Nat) (xs : List Int) (h : BytesAt w g o xs) (c : Nat) :
    (convert 26 9 (.slice (some ⟨g, o, none⟩) xs.length c)).run Tryd.prog w = .ok (.string (strOfNums xs)) w :=
  run_convert_bytes_arg (P := Tryd.prog) w 26 5 Tryd.underlying26 Tryd.underlying5 g o xs.length c xs rfl h _ Tryd.underlying9
theorem own_bytes {w : World} {B n : Nat} {v : Value} {xs : List Int} (h : w.ownsRow B 5 1 v n (u8s xs)) (hn : 0 < n) :
    ∃ g cap, v = .slice (some ⟨g, 0, none⟩) n cap ∧ B ≤ g ∧ g < w.heap.size ∧ n ≤ cap ∧ xs.length = n ∧ BytesAt w g 0 xs := by
  have hl : xs.length = n := by have := h.1; simpa [u8s_length] using this
  rcases h.2 with ⟨_, h0⟩ | ⟨g, cap, cur, rfl, hb, hg, hc, _, hs, ht⟩
  · omega
  · refine ⟨g, cap, rfl, hb, blk_lt hg, hc, hl, fun i hi => ?_⟩
    rw [Nat.zero_add, cell_blk hg, ← Array.getElem?_toList]
    have : (cur.toList.take (n * 1))[i]? = (u8s xs)[i]? := by rw [ht]
    rw [List.getElem?_take, if_pos (by omega)] at this
    rw [this]; simp [u8s, List.getElem?_eq_getElem hi]
theorem bytes_below {B g o : Nat} {w w' : World} {xs : List Int} (h : BytesAt w g o xs) (hb : Below B w w') (hg : g < B) : BytesAt w' g o xs :=
  fun i hi => (hb.cell (p := ⟨g, o + i, none⟩) hg).trans (h i hi)
theorem strOfNums_inj {xs ys : List Int} (hx : isBytes xs) (hy : isBytes ys) (h : (strOfNums xs).data.toList = (strOfNums ys).data.toList) : xs = ys := by
  have h1 : (xs.map fun n => UInt8.ofNat n.toNat) = ys.map fun n => UInt8.ofNat n.toNat := h
  have hl : xs.length = ys.length := by have := congrArg List.length h1; simpa using this
  refine List.ext_getElem hl fun i hi hj => ?_
  have h2 : (xs.map fun n => UInt8.ofNat n.toNat)[i]? = (ys.map fun n => UInt8.ofNat n.toNat)[i]? := by rw [h1]
  simp only [List.getElem?_map, List.getElem?_eq_getElem hi, List.getElem?_eq_getElem hj, Option.map_some, Option.some.injEq] at h2
  have a := hx i
  have b := hy i
  simp only [List.getD_eq_getElem?_getD, List.getElem?_eq_getElem hi, List.getElem?_eq_getElem hj, Option.getD_some] at a b
  have h3 := congrArg UInt8.toNat h2
  simp only [UInt8.toNat_ofNat'] at h3
  omega
theorem strOfNums_ne {xs ys : List Int} (hx : isBytes xs) (hy : isBytes ys) (h : xs ≠ ys) : ((strOfNums xs).toList == (strOfNums ys).toList) = false := by
  rw [ByteArray.toList_eq, ByteArray.toList_eq]
  exact beq_eq_false_iff_ne.2 fun e => h (strOfNums_inj hx hy e)
theorem isBytes_mapBytes (L : List (Int × Int)) (h : allOkM L) : isBytes (mapBytes L) := by
  intro i
  rw [List.getD_eq_getElem?_getD]
  cases hi : (mapBytes L)[i]? with
  | none => simp
  | some x =>
    obtain ⟨p, hp, hx⟩ := List.mem_flatMap.1 (List.mem_of_getElem? hi)
    obtain ⟨h0, h1, h2, h3⟩ := h p hp
    simp only [b8, List.mem_cons, List.mem_nil_iff, or_false] at hx
    simp only [Option.getD_some]
    rcases hx with rfl | rfl | rfl | rfl | rfl | rfl | rfl | rfl <;> omega

def decI (xs : List Int) : List (Int × Int) := (List.range 8).map fun k => (xs.getD (8 * k) 0 + xs.getD (8 * k + 1) 0 * 256 + xs.getD (8 * k + 2) 0 * 65536 + xs.getD (8 * k + 3) 0 * 16777216, xs.getD (8 * k + 4) 0 + xs.getD (8 * k + 5) 0 * 256)
def decR (xs : List Int) : List (Int × Int) := (List.range 8).map fun k => (xs.getD (8 * k) 0 + xs.getD (8 * k + 1) 0 * 256, xs.getD (8 * k + 4) 0 + xs.getD (8 * k + 5) 0 * 256)
theorem decI_length (xs : List Int) : (decI xs).length = 8 := by simp [decI]
theorem decR_length (xs : List Int) : (decR xs).length = 8 := by simp [decR]

/-- What is answered where a block's bytes xs give the entries L: they, if they are written so. -/
def ReadPost (w : World) (L : List (Int × Int)) (xs : List Int) (e : Ending) (w' : World) : Prop :=
  (allOkM L ∧ mapBytes L = xs → e = .returned (.tuple #[.agg (flatM L).toArray, .int .i64 0])) ∧
  (¬ (allOkM L ∧ mapBytes L = xs) → e = .returned (.tuple #[.agg zs16.toArray, .int .i64 100])) ∧ Below w.heap.size w w'

theorem readMap_any (xs : List Int) (hx : xs.length = 64) (hb : isBytes xs) (g o c : Nat) (hc : 64 ≤ c) (w : World) (hg : g < w.heap.size) (hcell : BytesAt w g o xs) :
    Calls Tryd.prog 13 #[.slice (some ⟨g, o, none⟩) 64 c] w (ReadPost w (decI xs) xs) := by
  have hget : ∀ k, k < 8 → (flatM (decI xs))[k * 2]? = some (.int .i64 (xs.getD (8 * k) 0 + xs.getD (8 * k + 1) 0 * 256 + xs.getD (8 * k + 2) 0 * 65536 + xs.getD (8 * k + 3) 0 * 16777216)) ∧ (flatM (decI xs))[k * 2 + 1]? = some (.int .i64 (xs.getD (8 * k + 4) 0 + xs.getD (8 * k + 5) 0 * 256)) := by
    intro k hk
    have := flatM_get (decI xs) k (by rw [decI_length]; exact hk)
    have hd : (decI xs).getD k (0, 0) = (xs.getD (8 * k) 0 + xs.getD (8 * k + 1) 0 * 256 + xs.getD (8 * k + 2) 0 * 65536 + xs.getD (8 * k + 3) 0 * 16777216, xs.getD (8 * k + 4) 0 + xs.getD (8 * k + 5) 0 * 256) := by
      simp [decI, List.getD_eq_getElem?_getD, List.getElem?_range hk]
    rw [hd] at this
    exact this
  have HG := Lib.hid hget; clear hget
  have hfl : (flatM (decI xs)).length = 16 := by rw [flatM_length, decI_length]
  obtain ⟨L, hL⟩ : ∃ L, L = decI xs := ⟨_, rfl⟩
  have hLl : L.length = 8 := by rw [hL, decI_length]
  rw [← hL] at hfl HG ⊢
  clear hL
  have HF := Lib.hid hfl; clear hfl
  have HL := Lib.hid hLl; clear hLl
  have HB := Lib.hid hb
  obtain ⟨Z, hZ⟩ : ∃ Z, Z = zs16.toArray := ⟨_, rfl⟩
  have HZ := Lib.hid hZ; clear hZ
  have HC := Lib.hid hcell; clear hcell
  have HX := Lib.hid hx; clear hx
  go_enter Tryd.func13, Tryd.ntmps13
  go_wp2_with fail
  go_loopw [5, 6, 13] (fun _ _ i wr => ∃ k : Nat, k ≤ 8 ∧ i = .int .i64 k ∧ (∃ C, wr.heap[w.heap.size]? = some (.cells C 24 (0, 0)) ∧ C.size = 16) ∧ wr.heap[w.heap.size + 1]? = some (.cells (fill (flatM L) zs16 (k * 2)).toArray 24 (0, 0)) ∧ Below w.heap.size w wr)
    (fun _ _ i _ => 8 - (intOf i).toNat)
  case atStart => exact ⟨0, by omega, rfl, ⟨_, blk_old (blk_new rfl), rfl⟩, blk_new (by simp), ((Below.refl _ _).alloc (Nat.le_refl _) _).alloc (by simp) _⟩
  case round =>
    obtain ⟨k, hk, rfl, ⟨C, h0, hC⟩, h1, hnx⟩ := hrel
    by_cases hlt : k < 8
    · have hxl := HX.out
      have G := HG.out k hlt
      have hl := fill_length (flatM L) zs16 (k * 2) (by rw [HF.out]; rfl)
      have hl16 := HF.out
      have c0 := (hnx.cell (p := ⟨g, o + 8 * k, none⟩) hg).trans (HC.out (8 * k) (by omega))
      have c1 := (hnx.cell (p := ⟨g, o + 8 * k + 1, none⟩) hg).trans (HC.out (8 * k + 1) (by omega))
      have c2 := (hnx.cell (p := ⟨g, o + 8 * k + 2, none⟩) hg).trans (HC.out (8 * k + 2) (by omega))
      have c3 := (hnx.cell (p := ⟨g, o + 8 * k + 3, none⟩) hg).trans (HC.out (8 * k + 3) (by omega))
      have c4 := (hnx.cell (p := ⟨g, o + 8 * k + 4, none⟩) hg).trans (HC.out (8 * k + 4) (by omega))
      have c5 := (hnx.cell (p := ⟨g, o + 8 * k + 5, none⟩) hg).trans (HC.out (8 * k + 5) (by omega))
      obtain ⟨l0, u0⟩ := hb (8 * k)
      obtain ⟨l1, u1⟩ := hb (8 * k + 1)
      obtain ⟨l2, u2⟩ := hb (8 * k + 2)
      obtain ⟨l3, u3⟩ := hb (8 * k + 3)
      obtain ⟨l4, u4⟩ := hb (8 * k + 4)
      obtain ⟨l5, u5⟩ := hb (8 * k + 5)
      generalize xs.getD (8 * k) 0 = x0 at *
      generalize xs.getD (8 * k + 1) 0 = x1 at *
      generalize xs.getD (8 * k + 2) 0 = x2 at *
      generalize xs.getD (8 * k + 3) 0 = x3 at *
      generalize xs.getD (8 * k + 4) 0 = x4 at *
      generalize xs.getD (8 * k + 5) 0 = x5 at *
      have G' := Lib.hid G; clear G
      clear hb hxl
      have ex : ∀ i, i < 16 → ∃ u, wr.cell? ⟨w.heap.size + 1, i, none⟩ = some u := fun i hi => ⟨_, cell_blk_some h1 (by rw [List.getElem?_toArray]; exact List.getElem?_eq_getElem (by omega))⟩
      obtain ⟨y0, y0'⟩ := ex (k * 2) (by omega)
      obtain ⟨y1, y1'⟩ := ex (k * 2 + 1) (by omega)
      have f0 := free_blk (i := k * 2) h1
      have f1 := free_blk (i := k * 2 + 1) h1
      have sz := blk_lt h1
      have R0 := Lib.hid h0; clear h0
      have R1 := Lib.hid h1; clear h1
      clear ex hl hl16
      have p0 : 0 < 64 - 8 * k := by omega
      have p1 : (1 : Int) < ((64 - 8 * k : Nat) : Int) := by omega
      have p2 : (2 : Int) < ((64 - 8 * k : Nat) : Int) := by omega
      have p3 : (3 : Int) < ((64 - 8 * k : Nat) : Int) := by omega
      have p4 : (4 : Int) < ((64 - 8 * k : Nat) : Int) := by omega
      have p5 : (5 : Int) < ((64 - 8 * k : Nat) : Int) := by omega
      have w0 : IntKind.i64.wrap x0 = x0 := IntWalk.i64_in _ (by omega)
      have w1 : IntKind.i64.wrap x1 = x1 := IntWalk.i64_in _ (by omega)
      have w2 : IntKind.i64.wrap x2 = x2 := IntWalk.i64_in _ (by omega)
      have w3 : IntKind.i64.wrap x3 = x3 := IntWalk.i64_in _ (by omega)
      have w4 : IntKind.i64.wrap x4 = x4 := IntWalk.i64_in _ (by omega)
      have w5 : IntKind.i64.wrap x5 = x5 := IntWalk.i64_in _ (by omega)
      have m1 : IntKind.i64.wrap (x1 * 256) = x1 * 256 := IntWalk.i64_in _ (by omega)
      have m2 : IntKind.i64.wrap (x2 * 65536) = x2 * 65536 := IntWalk.i64_in _ (by omega)
      have m3 : IntKind.i64.wrap (x3 * 16777216) = x3 * 16777216 := IntWalk.i64_in _ (by omega)
      have m5 : IntKind.i64.wrap (x5 * 256) = x5 * 256 := IntWalk.i64_in _ (by omega)
      have t1 : bits .or .i64 x0 (x1 * 256) = x0 + x1 * 256 := or_i64 8 _ _ (by omega) (by omega) (by omega) (by omega) (by omega) (by omega)
      have t2 : bits .or .i64 (x0 + x1 * 256) (x2 * 65536) = x0 + x1 * 256 + x2 * 65536 := or_i64 16 _ _ (by omega) (by omega) (by omega) (by omega) (by omega) (by omega)
      have t3 : bits .or .i64 (x0 + x1 * 256 + x2 * 65536) (x3 * 16777216) = x0 + x1 * 256 + x2 * 65536 + x3 * 16777216 := or_i64 24 _ _ (by omega) (by omega) (by omega) (by omega) (by omega) (by omega)
      have t5 : bits .or .i64 x4 (x5 * 256) = x4 + x5 * 256 := or_i64 8 _ _ (by omega) (by omega) (by omega) (by omega) (by omega) (by omega)
      go_wp2_with fail
      go_still_tail 35, (by kernel_rfl)
      go_wp2_with fail
      go_roundw
      case rel =>
        obtain ⟨G0, G1⟩ := G'.out
        refine ⟨k + 1, by omega, by go_num, ⟨C, ?_, hC⟩, ?_, ?_⟩
        · exact blk_set_other (blk_set_other R0.out (by simp) _) (by simp) _
        · have := blk_set (i := k * 2 + 1) (blk_set (i := k * 2) R1.out (.int .i64 (x0 + x1 * 256 + x2 * 65536 + x3 * 16777216))) (.int .i64 (x4 + x5 * 256))
          rw [fill_set _ _ _ (by rw [HF.out]; rfl) (by rw [HF.out]; omega) _ G0, fill_set _ _ _ (by rw [HF.out]; rfl) (by rw [HF.out]; omega) _ G1] at this
          rw [show (k + 1) * 2 = k * 2 + 1 + 1 by omega]
          exact this
        · exact ((hnx.setCell (by simp) _).setCell (by simp) _).drew
      case measure => simp [intOf]; omega
    · obtain rfl : k = 8 := by omega
      have hf := HF.out
      rw [show 8 * 2 = (flatM L).length by omega, fill_all _ _ (by rw [hf]; rfl)] at h1
      have hone : (flatM L).toArray.all (·.oneCell') = true := by
        refine all_oneCell_toArray fun v hv => ?_
        obtain ⟨p, _, hv⟩ := List.mem_flatMap.1 hv
        rcases List.mem_cons.1 hv with rfl | hv
        · rfl
        · obtain rfl := List.mem_singleton.1 hv; rfl
      have hsz : (flatM L).toArray.size = 16 := by simpa using hf
      have hmb := mapBlock_any L HL.out wr
      clear hb hf
      obtain ⟨Y, hY⟩ : ∃ Y, Y = (flatM L).toArray := ⟨_, rfl⟩
      rw [← hY] at h1 hone hsz hmb
      have HY := Lib.hid hY; clear hY
      have HM := Lib.hid hmb; clear hmb
      go_wp2_with (refine wpList_load_row rfl 24 _ rfl _ rfl 24 _ _ _ h1 Tryd.underlying24 rfl (by rw [hsz]; kernel_rfl) ?_)
      refine HM.out.mono ?_
      rintro e w1 ⟨ha, hn, hb1⟩
      have h1' := blk_below hb1 (blk_lt h1) h1
      have h0' := blk_below hb1 (blk_lt h0) h0
      have hbel := below_call hnx hb1 (Nat.le_refl _)
      have hlen := HX.out
      have hcv2 := strOf_bytes w1 g o xs (bytes_below (bytes_below HC.out hnx hg) hb1 (Nat.lt_of_lt_of_le hg hnx.size)) c
      rw [hlen] at hcv2
      clear hlen h0 h1 hb1 hnx HG HM
      by_cases hok : allOkM L
      · obtain ⟨x, y, rfl, hown, rfl⟩ := ha hok
        rw [HL.out] at hown
        obtain ⟨g', cap, rfl, _, _, _, hml, hby⟩ := own_bytes hown (by omega)
        have hcv1 := strOf_bytes w1 g' 0 (mapBytes L) hby cap
        rw [hml] at hcv1
        clear ha hn hown hby hml
        by_cases heq : mapBytes L = xs
        · rw [heq] at hcv1
          have HE := Lib.hid heq; clear heq
          go_wp2_with (first | (refine wpList_load_row rfl 24 _ rfl _ rfl 24 _ _ _ h1' Tryd.underlying24 rfl (by rw [hsz]; kernel_rfl) ?_) | (refine wpList_store_row rfl 24 _ _ rfl _ _ rfl rfl 24 _ h0' (by rw [hsz]; kernel_rfl) (by rw [hC, hsz]) hone ?_))
          refine bodyPost_ret (v := .tuple #[.agg Y, .int .i64 0]) (results_row_tmp (p := 2) (u := 3) rfl _ _ _ _ Y (0, 0) _ rfl (setRow_heap _ _ _ _ _ _ h0') Tryd.underlying24 rfl (by rw [hsz]; kernel_rfl)) rfl ⟨fun _ => by rw [HY.out], fun h => absurd ⟨hok, HE.out⟩ h, ?_⟩
          exact below_setRow hbel (by omega) _
        · have hne : ((strOfNums (mapBytes L)).toList == (strOfNums xs).toList) = false := strOfNums_ne (isBytes_mapBytes L hok) HB.out heq
          have HE := Lib.hid heq; clear heq
          go_wp2_with (first | (refine wpList_store_row rfl 24 _ _ rfl _ _ rfl rfl 24 _ h0' (by kernel_rfl) (by rw [hC]; rfl) (by simp [Value.oneCell']) ?_))
          refine bodyPost_ret (v := .tuple #[.agg zs16.toArray, .int .i64 100]) (results_row_tmp (p := 2) (u := 3) rfl _ _ _ _ _ (0, 0) _ rfl (setRow_heap _ _ _ _ _ _ h0') Tryd.underlying24 rfl (by kernel_rfl)) rfl ⟨fun h => absurd h.2 HE.out, fun _ => rfl, ?_⟩
          exact below_setRow hbel (by omega) _
      · obtain rfl := hn hok
        clear ha hn
        have HN := Lib.hid hok; clear hok
        go_wp2_with (first | (refine wpList_store_row rfl 24 _ _ rfl _ _ rfl rfl 24 _ h0' (by kernel_rfl) (by rw [hC]; rfl) (by simp [Value.oneCell']) ?_))
        refine bodyPost_ret (v := .tuple #[.agg zs16.toArray, .int .i64 100]) (results_row_tmp (p := 2) (u := 3) rfl _ _ _ _ _ (0, 0) _ rfl (setRow_heap _ _ _ _ _ _ h0') Tryd.underlying24 rfl (by kernel_rfl)) rfl ⟨fun h => absurd h.1 HN.out, fun _ => rfl, ?_⟩
        exact below_setRow hbel (by omega) _

theorem readMap_short (ao : Option Addr) (n c : Nat) (hn : n ≠ 64) (_hn2 : n ≤ 140737488355328) (w : World) :
    Calls Tryd.prog 13 #[.slice ao n c] w fun e w' => e = .returned (.tuple #[.agg zs16.toArray, .int .i64 100]) ∧ Below w.heap.size w w' := by
  have q : ((n : Int) != 64) = true := by rw [bne_iff_ne]; omega
  clear hn
  go_enter Tryd.func13, Tryd.ntmps13
  go_wp2
  refine bodyPost_ret (v := .tuple #[.agg zs16.toArray, .int .i64 100]) (results_row_tmp (p := 2) (u := 3) rfl _ _ _ _ _ (0, 0) _ rfl (blk_old (blk_new rfl)) Tryd.underlying24 rfl (by kernel_rfl)) rfl ⟨rfl, ?_⟩
  exact ((Below.refl _ _).alloc (Nat.le_refl _) _).alloc (by simp) _
end Go.Proofs.YtggfdhjckohmjaaDoor
