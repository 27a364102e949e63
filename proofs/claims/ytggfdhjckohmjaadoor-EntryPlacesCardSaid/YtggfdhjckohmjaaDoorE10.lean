/- Walks of entry.ReadDir: what it reads of 64 bytes, and that it reads nothing of others. -/
import Derived.Test.YtggfdhjckohmjaaDoorE9
namespace Go.Proofs.YtggfdhjckohmjaaDoor
open Go.RowKit

def seg (xs : List Int) (k : Nat) : List Int := (xs.drop (16 * k + 2)).take 14
theorem seg_length {xs : List Int} {k : Nat} (hx : xs.length = 64) (hk : k < 4) : (seg xs k).length = 14 := by simp [seg, hx]; omega
theorem seg_at {xs : List Int} {k g o : Nat} {w : World} (hx : xs.length = 64) (hk : k < 4) (h : BytesAt w g o xs) : BytesAt w g (o + 16 * k + 2) (seg xs k) := by
  intro i hi
  rw [seg_length hx hk] at hi
  have := h (16 * k + 2 + i) (by omega)
  rw [show o + 16 * k + 2 + i = o + (16 * k + 2 + i) by omega, this]
  simp only [seg, List.getD_eq_getElem?_getD, List.getElem?_take, List.getElem?_drop, if_pos hi]
/-- The text of these bytes without the noughts at its end. -/
def trimS (ns : List Int) : ByteArray := ⟨(Lib.trimRightB (strOfNums ns).data.toList 0).toArray⟩
theorem trimS_eq (ns : List Int) : trimS ns = ⟨(Lib.trimRightB (strOfNums ns).data.toList 0).toArray⟩ := rfl
def decD (xs : List Int) : List DE := (List.range 4).map fun k => (xs.getD (16 * k) 0 + xs.getD (16 * k + 1) 0 * 256, trimS (seg xs k))
theorem decD_length (xs : List Int) : (decD xs).length = 4 := by simp [decD]
theorem trimS_le (ns : List Int) : (trimS ns).size ≤ ns.length := by
  show (Lib.trimRightB (strOfNums ns).data.toList 0).length ≤ _
  unfold Lib.trimRightB
  rw [List.length_reverse]
  refine Nat.le_trans (List.Sublist.length_le (List.dropWhile_sublist _)) ?_
  simp [strOfNums]
theorem decD_short (xs : List Int) : shortD (decD xs) := by
  intro p hp
  obtain ⟨k, _, rfl⟩ := List.mem_map.1 hp
  have h1 := trimS_le (seg xs k)
  have h2 : (seg xs k).length ≤ 14 := by simp [seg]; omega
  show (trimS (seg xs k)).size ≤ _
  omega
theorem isBytes_dirBytes (L : List DE) (h : allOkD L) : isBytes (dirBytes L) := by
  intro i
  rw [List.getD_eq_getElem?_getD]
  cases hi : (dirBytes L)[i]? with
  | none => simp
  | some x =>
    obtain ⟨p, hp, hx⟩ := List.mem_flatMap.1 (List.mem_of_getElem? hi)
    simp only [Option.getD_some]
    have hd := h p hp
    simp only [b16, List.mem_append, List.mem_cons, List.mem_nil_iff, or_false, nums, List.mem_map] at hx
    rcases hx with ((rfl | rfl) | ⟨b, _, rfl⟩) | hx
    · rcases hd with ⟨h0, _⟩ | ⟨h0, h1, _⟩ <;> omega
    · omega
    · have := b.toNat_lt; omega
    · have := List.eq_of_mem_replicate hx; omega

/-- What is answered where a block's bytes xs give the entries L: they, if they are written so. -/
def ReadPostD (w : World) (L : List DE) (xs : List Int) (e : Ending) (w' : World) : Prop :=
  (allOkD L ∧ dirBytes L = xs → e = .returned (.tuple #[.agg (flatD L).toArray, .int .i64 0])) ∧
  (¬ (allOkD L ∧ dirBytes L = xs) → e = .returned (.tuple #[.agg zsD.toArray, .int .i64 100])) ∧ Below w.heap.size w w'

theorem readDir_any (xs : List Int) (hx : xs.length = 64) (hb : isBytes xs) (g o c : Nat) (hc : 64 ≤ c) (w : World) (hg : g < w.heap.size) (hcell : BytesAt w g o xs) :
    Calls Tryd.prog 17 #[.slice (some ⟨g, o, none⟩) 64 c] w (ReadPostD w (decD xs) xs) := by
  have hget : ∀ k, k < 4 → (flatD (decD xs))[k * 2]? = some (.int .i64 (xs.getD (16 * k) 0 + xs.getD (16 * k + 1) 0 * 256)) ∧ (flatD (decD xs))[k * 2 + 1]? = some (.string (trimS (seg xs k))) := by
    intro k hk
    have := flatD_get (decD xs) k (by rw [decD_length]; exact hk)
    have hd : (decD xs).getD k nilDE = (xs.getD (16 * k) 0 + xs.getD (16 * k + 1) 0 * 256, trimS (seg xs k)) := by
      simp [decD, List.getD_eq_getElem?_getD, List.getElem?_range hk]
    rw [hd] at this
    exact this
  have HSH := Lib.hid (decD_short xs)
  have HG := Lib.hid hget; clear hget
  have hfl : (flatD (decD xs)).length = 8 := by rw [flatD_length, decD_length]
  obtain ⟨L, hL⟩ : ∃ L, L = decD xs := ⟨_, rfl⟩
  have hLl : L.length = 4 := by rw [hL, decD_length]
  rw [← hL] at hfl HG HSH ⊢
  clear hL
  have HF := Lib.hid hfl; clear hfl
  have HL := Lib.hid hLl; clear hLl
  have HB := Lib.hid hb
  obtain ⟨Z, hZ⟩ : ∃ Z, Z = zsD.toArray := ⟨_, rfl⟩
  have HZ := Lib.hid hZ; clear hZ
  have HC := Lib.hid hcell; clear hcell
  have HX := Lib.hid hx; clear hx
  go_enter Tryd.func17, Tryd.ntmps17
  go_wp2_with fail
  go_loopw [5, 6, 13] (fun _ _ i wr => ∃ k : Nat, k ≤ 4 ∧ i = .int .i64 k ∧ (∃ C, wr.heap[w.heap.size]? = some (.cells C 40 (0, 0)) ∧ C.size = 8) ∧ wr.heap[w.heap.size + 1]? = some (.cells (fill (flatD L) zsD (k * 2)).toArray 40 (0, 0)) ∧ Below w.heap.size w wr)
    (fun _ _ i _ => 4 - (intOf i).toNat)
  case atStart => exact ⟨0, by omega, rfl, ⟨_, blk_old (blk_new rfl), rfl⟩, blk_new (by simp), ((Below.refl _ _).alloc (Nat.le_refl _) _).alloc (by simp) _⟩
  case round =>
    obtain ⟨k, hk, rfl, ⟨C, h0, hC⟩, h1, hnx⟩ := hrel
    by_cases hlt : k < 4
    · have hxl := HX.out
      have G := HG.out k hlt
      have hl := fill_length (flatD L) zsD (k * 2) (by rw [HF.out]; rfl)
      have hl8 := HF.out
      have c0 := (hnx.cell (p := ⟨g, o + 16 * k, none⟩) hg).trans (HC.out (16 * k) (by omega))
      have c1 := (hnx.cell (p := ⟨g, o + 16 * k + 1, none⟩) hg).trans (HC.out (16 * k + 1) (by omega))
      have hseg := seg_at HX.out hlt (bytes_below HC.out hnx hg)
      have hcv := strOf_bytes wr.drew g (o + 16 * k + 2) (seg xs k) hseg (c - 16 * k - 2)
      have hc2 : ¬ (c - 16 * k = 2) := by omega
      have hsl : (seg xs k).length = 14 := seg_length HX.out hlt
      rw [hsl] at hcv
      have hstl : (strOfNums (seg xs k)).size = 14 := by rw [strOfNums_size, hsl]
      obtain ⟨l0, u0⟩ := hb (16 * k)
      obtain ⟨l1, u1⟩ := hb (16 * k + 1)
      generalize xs.getD (16 * k) 0 = x0 at *
      generalize xs.getD (16 * k + 1) 0 = x1 at *
      obtain ⟨T, hT⟩ : ∃ T, T = strOfNums (seg xs k) := ⟨_, rfl⟩
      rw [← hT] at hcv hstl
      have hTR := trimS_eq (seg xs k)
      rw [← hT] at hTR
      have HTR := Lib.hid hTR
      have HTS := Lib.hid hstl
      clear hseg hsl hT hTR hstl
      have G' := Lib.hid G; clear G
      clear hb hxl
      have ex : ∀ i, i < 8 → ∃ u, wr.cell? ⟨w.heap.size + 1, i, none⟩ = some u := fun i hi => ⟨_, cell_blk_some h1 (by rw [List.getElem?_toArray]; exact List.getElem?_eq_getElem (by omega))⟩
      obtain ⟨y0, y0'⟩ := ex (k * 2) (by omega)
      obtain ⟨y1, y1'⟩ := ex (k * 2 + 1) (by omega)
      have f0 := free_blk (i := k * 2) h1
      have f1 := free_blk (i := k * 2 + 1) h1
      have sz := blk_lt h1
      have R0 := Lib.hid h0; clear h0
      have R1 := Lib.hid h1; clear h1
      clear ex hl hl8
      have p0 : 0 < 16 := by omega
      have p1 : (1 : Int) < 16 := by omega
      have w0 : IntKind.i64.wrap x0 = x0 := IntWalk.i64_in _ (by omega)
      have w1 : IntKind.i64.wrap x1 = x1 := IntWalk.i64_in _ (by omega)
      have m1 : IntKind.i64.wrap (x1 * 256) = x1 * 256 := IntWalk.i64_in _ (by omega)
      have t1 : bits .or .i64 x0 (x1 * 256) = x0 + x1 * 256 := or_i64 8 _ _ (by omega) (by omega) (by omega) (by omega) (by omega) (by omega)
      go_wp2_with fail
      go_still_tail 17, (by kernel_rfl)
      still_call (Tryd.strings_TrimRight_one T 0 (by decide) _ (by rw [HTS.out]; decide))
      repeat still_step
      try refine wpStill_nil ?_
      rw [← HTR.out]
      clear hc2 hcv
      go_wp2_with fail
      go_roundw
      case rel =>
        obtain ⟨G0, G1⟩ := G'.out
        refine ⟨k + 1, by omega, by go_num, ⟨C, ?_, hC⟩, ?_, ?_⟩
        · exact blk_set_other (blk_set_other R0.out (by simp) _) (by simp) _
        · have := blk_set (i := k * 2 + 1) (blk_set (i := k * 2) R1.out (.int .i64 (x0 + x1 * 256))) (.string (trimS (seg xs k)))
          rw [fill_set _ _ _ (by rw [HF.out]; rfl) (by rw [HF.out]; omega) _ G0, fill_set _ _ _ (by rw [HF.out]; rfl) (by rw [HF.out]; omega) _ G1] at this
          rw [show (k + 1) * 2 = k * 2 + 1 + 1 by omega]
          exact this
        · exact ((hnx.setCell (by simp) _).setCell (by simp) _).drew
      case measure => simp [intOf]; omega
    · obtain rfl : k = 4 := by omega
      have hf := HF.out
      rw [show 4 * 2 = (flatD L).length by omega, fill_all _ _ (by rw [hf]; rfl)] at h1
      have hone := flatD_one L
      have hsz : (flatD L).toArray.size = 8 := by simpa using hf
      have hmb := dirBlock_any L HL.out HSH.out wr
      clear hb hf
      obtain ⟨Y, hY⟩ : ∃ Y, Y = (flatD L).toArray := ⟨_, rfl⟩
      rw [← hY] at h1 hone hsz hmb
      have HY := Lib.hid hY; clear hY
      have HM := Lib.hid hmb; clear hmb
      go_wp2_with (refine wpList_load_row rfl 40 _ rfl _ rfl 40 _ _ _ h1 Tryd.underlying40 rfl (by rw [hsz]; kernel_rfl) ?_)
      refine HM.out.mono ?_
      rintro e w1 ⟨ha, hn, hb1⟩
      have h1' := blk_below hb1 (blk_lt h1) h1
      have h0' := blk_below hb1 (blk_lt h0) h0
      have hbel := below_call hnx hb1 (Nat.le_refl _)
      have hlen := HX.out
      have hcv2 := strOf_bytes w1 g o xs (bytes_below (bytes_below HC.out hnx hg) hb1 (Nat.lt_of_lt_of_le hg hnx.size)) c
      rw [hlen] at hcv2
      clear hlen h0 h1 hb1 hnx HG HM
      by_cases hok : allOkD L
      · obtain ⟨x, y, rfl, hown, rfl⟩ := ha hok
        rw [HL.out] at hown
        obtain ⟨g', cap, rfl, _, _, _, hml, hby⟩ := own_bytes hown (by omega)
        have hcv1 := strOf_bytes w1 g' 0 (dirBytes L) hby cap
        rw [hml] at hcv1
        clear ha hn hown hby hml
        by_cases heq : dirBytes L = xs
        · rw [heq] at hcv1
          have HE := Lib.hid heq; clear heq
          go_wp2_with (first | (refine wpList_load_row rfl 40 _ rfl _ rfl 40 _ _ _ h1' Tryd.underlying40 rfl (by rw [hsz]; kernel_rfl) ?_) | (refine wpList_store_row rfl 40 _ _ rfl _ _ rfl rfl 40 _ h0' (by rw [hsz]; kernel_rfl) (by rw [hC, hsz]) hone ?_))
          refine bodyPost_ret (v := .tuple #[.agg Y, .int .i64 0]) (results_row_tmp (p := 2) (u := 3) rfl _ _ _ _ Y (0, 0) _ rfl (setRow_heap _ _ _ _ _ _ h0') Tryd.underlying40 rfl (by rw [hsz]; kernel_rfl)) rfl ⟨fun _ => by rw [HY.out], fun h => absurd ⟨hok, HE.out⟩ h, ?_⟩
          exact below_setRow hbel (by omega) _
        · have hne : ((strOfNums (dirBytes L)).toList == (strOfNums xs).toList) = false := strOfNums_ne (isBytes_dirBytes L hok) HB.out heq
          have HE := Lib.hid heq; clear heq
          go_wp2_with (first | (refine wpList_store_row rfl 40 _ _ rfl _ _ rfl rfl 40 _ h0' (by kernel_rfl) (by rw [hC]; rfl) (by simp [Value.oneCell']) ?_))
          refine bodyPost_ret (v := .tuple #[.agg zsD.toArray, .int .i64 100]) (results_row_tmp (p := 2) (u := 3) rfl _ _ _ _ _ (0, 0) _ rfl (setRow_heap _ _ _ _ _ _ h0') Tryd.underlying40 rfl (by kernel_rfl)) rfl ⟨fun h => absurd h.2 HE.out, fun _ => rfl, ?_⟩
          exact below_setRow hbel (by omega) _
      · obtain rfl := hn hok
        clear ha hn
        have HN := Lib.hid hok; clear hok
        go_wp2_with (first | (refine wpList_store_row rfl 40 _ _ rfl _ _ rfl rfl 40 _ h0' (by kernel_rfl) (by rw [hC]; rfl) (by simp [Value.oneCell']) ?_))
        refine bodyPost_ret (v := .tuple #[.agg zsD.toArray, .int .i64 100]) (results_row_tmp (p := 2) (u := 3) rfl _ _ _ _ _ (0, 0) _ rfl (setRow_heap _ _ _ _ _ _ h0') Tryd.underlying40 rfl (by kernel_rfl)) rfl ⟨fun h => absurd h.1 HN.out, fun _ => rfl, ?_⟩
        exact below_setRow hbel (by omega) _

theorem readDir_short (ao : Option Addr) (n c : Nat) (hn : n ≠ 64) (_hn2 : n ≤ 140737488355328) (w : World) :
    Calls Tryd.prog 17 #[.slice ao n c] w fun e w' => e = .returned (.tuple #[.agg zsD.toArray, .int .i64 100]) ∧ Below w.heap.size w w' := by
  have q : ((n : Int) != 64) = true := by rw [bne_iff_ne]; omega
  clear hn
  go_enter Tryd.func17, Tryd.ntmps17
  go_wp2
  refine bodyPost_ret (v := .tuple #[.agg zsD.toArray, .int .i64 100]) (results_row_tmp (p := 2) (u := 3) rfl _ _ _ _ _ (0, 0) _ rfl (blk_old (blk_new rfl)) Tryd.underlying40 rfl (by kernel_rfl)) rfl ⟨rfl, ?_⟩
  exact ((Below.refl _ _).alloc (Nat.le_refl _) _).alloc (by simp) _
end Go.Proofs.YtggfdhjckohmjaaDoor
