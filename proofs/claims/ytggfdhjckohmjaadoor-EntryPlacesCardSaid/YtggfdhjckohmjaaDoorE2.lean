/- Walks of the document's map entries' functions (marlref07.MapBlock, marllaw07.refMap): what each computes. -/
import Derived.Test.YtggfdhjckohmjaaDoorE1
namespace Go.Proofs.YtggfdhjckohmjaaDoor
open Go.RowKit

theorem strOf_row (w : World) (g : Nat) (xs : List Int) (h : w.heap[g]? = some (.cells (u8s xs).toArray 5 (0, 0))) (c : Nat) :
    (convert 26 9 (.slice (some ⟨g, 0, none⟩) xs.length c)).run Tryd.prog w = .ok (.string (strOfNums xs)) w := by
  refine run_convert_bytes_arg (P := Tryd.prog) w 26 5 Tryd.underlying26 Tryd.underlying5 g 0 xs.length c xs rfl (fun i hi => ?_) _ Tryd.underlying9
  rw [Nat.zero_add, cell_blk h]
  simp [u8s, List.getElem?_eq_getElem hi]

def zs16 : List Value := List.replicate 16 (.int .i64 0)

theorem refMap_any (L : List (Int × Int)) (hX : L.length = 8) (w : World) :
    Calls Tryd.prog 12 #[.agg (flatM L).toArray] w (fun e w' => e = .returned (.agg (flatM L).toArray) ∧ Below w.heap.size w w') := by
  have hX' : (flatM L).length = 16 := by rw [flatM_length]; omega
  have hY' : (flatM L).toArray.size = 16 := by simpa using hX'
  have hget : ∀ k, k < 8 → _ := fun k hk => flatM_get L k (by omega)
  obtain ⟨Y, hY⟩ : ∃ Y, Y = (flatM L).toArray := ⟨_, rfl⟩
  rw [← hY] at hY' ⊢
  have HY := Lib.hid hY; clear hY
  go_enter Tryd.func12, Tryd.ntmps12
  go_wp2_with fail
  go_loopw [4, 5] (fun _ i wr => ∃ k : Nat, k ≤ 8 ∧ i = .int .i64 k ∧ wr.heap[w.heap.size]? = some (.cells Y 24 (0, 0)) ∧ (∃ C, wr.heap[w.heap.size + 1]? = some (.cells C 33 (0, 0)) ∧ C.size = 16) ∧ wr.heap[w.heap.size + 1 + 1]? = some (.cells (fill (flatM L) zs16 (k * 2)).toArray 33 (0, 0)) ∧ Below w.heap.size w wr)
    (fun _ i _ => 8 - (intOf i).toNat)
  case atStart => exact ⟨0, by omega, rfl, blk_old (blk_old (blk_new rfl)), ⟨_, blk_old (blk_new (by simp)), rfl⟩, blk_new (by simp), (((Below.refl _ _).alloc (Nat.le_refl _) _).alloc (by simp) _).alloc (by simp; omega) _⟩
  case round =>
    obtain ⟨k, hk, rfl, h0, ⟨C, h1, hC⟩, h2, hnx⟩ := hrel
    by_cases hlt : k < 8
    · obtain ⟨g0, g1⟩ := hget k hlt
      clear hget
      obtain ⟨⟨a, v⟩, hp⟩ : ∃ p, p = L.getD k (0, 0) := ⟨_, rfl⟩
      rw [← hp] at g0 g1
      clear hp
      simp only at g0 g1
      have c0 := cell_blk_some h0 (i := k * 2) (v := .int .i64 a) (by rw [HY.out]; simpa using g0)
      have c1 := cell_blk_some h0 (i := k * 2 + 1) (v := .int .i64 v) (by rw [HY.out]; simpa using g1)
      have sz := blk_lt h2
      have R0 := Lib.hid h0; clear h0
      have R1 := Lib.hid h1; clear h1
      have hl := fill_length (flatM L) zs16 (k * 2) (by rw [hX']; rfl)
      have e2 : ∃ u, wr.cell? ⟨w.heap.size + 1 + 1, k * 2, none⟩ = some u := ⟨_, cell_blk_some h2 (by rw [List.getElem?_toArray]; exact List.getElem?_eq_getElem (by omega))⟩
      have e3 : ∃ u, wr.cell? ⟨w.heap.size + 1 + 1, k * 2 + 1, none⟩ = some u := ⟨_, cell_blk_some h2 (by rw [List.getElem?_toArray]; exact List.getElem?_eq_getElem (by omega))⟩
      obtain ⟨u2, e2⟩ := e2
      obtain ⟨u3, e3⟩ := e3
      have f2 := free_blk (i := k * 2) h2
      have f3 := free_blk (i := k * 2 + 1) h2
      have R2 := Lib.hid h2; clear h2
      have G0 := Lib.hid g0; clear g0
      have G1 := Lib.hid g1; clear g1
      have HX := Lib.hid hX'; clear hX'
      clear hl
      go_wp2_with fail
      go_still_tail 11, (by kernel_rfl)
      go_wp2_with fail
      go_roundw
      case rel =>
        refine ⟨k + 1, by omega, by go_num, ?_, ⟨C, ?_, hC⟩, ?_, ?_⟩
        · exact blk_set_other (blk_set_other R0.out (by simp; omega) _) (by simp; omega) _
        · exact blk_set_other (blk_set_other R1.out (by simp) _) (by simp) _
        · have := blk_set (i := k * 2 + 1) (blk_set (i := k * 2) R2.out (.int .i64 a)) (.int .i64 v)
          rw [fill_set _ _ _ (by rw [HX.out]; rfl) (by rw [HX.out]; omega) _ G0.out, fill_set _ _ _ (by rw [HX.out]; rfl) (by rw [HX.out]; omega) _ G1.out] at this
          rw [show (k + 1) * 2 = k * 2 + 1 + 1 by omega]
          exact this
        · exact ((hnx.setCell (by simp; omega) _).setCell (by simp; omega) _).drew
      case measure => simp [intOf]; omega
    · obtain rfl : k = 8 := by omega
      rw [show 8 * 2 = (flatM L).length by omega, fill_all _ _ (by rw [hX']; rfl), ← HY.out] at h2
      clear hget
      have hone : Y.all (·.oneCell') = true := by
        rw [HY.out]; refine all_oneCell_toArray fun v hv => ?_
        obtain ⟨p, _, hv⟩ := List.mem_flatMap.1 hv
        rcases List.mem_cons.1 hv with rfl | hv
        · rfl
        · obtain rfl := List.mem_singleton.1 hv; rfl
      go_wp2_with (first | (refine wpList_load_row rfl 33 _ rfl _ rfl 33 _ _ _ h2 Tryd.underlying33 rfl (by rw [hY']; kernel_rfl) ?_) | (refine wpList_store_row rfl 33 _ _ rfl _ _ rfl rfl 33 _ h1 (by rw [hY']; kernel_rfl) (by rw [hC, hY']) hone ?_))
      refine bodyPost_ret (v := .agg Y) (results_cell_row rfl _ _ _ _ Y (0, 0) _ rfl (setRow_heap _ _ _ _ _ _ h1) Tryd.underlying33 rfl (by rw [hY']; kernel_rfl)) rfl ⟨rfl, ?_⟩
      exact below_setRow hnx (by omega) _

/-! ### marlref07.MapBlock -/
theorem set_b8 (A : List Value) (m : Nat) (x y u v z : Value) :
    ((((A ++ List.replicate (m + 8) z).toArray.setIfInBounds A.length x).setIfInBounds (A.length + 1) y).setIfInBounds (A.length + 4) u).setIfInBounds (A.length + 5) v
      = (A ++ [x, y, z, z, u, v, z, z] ++ List.replicate m z).toArray := by
  simp [List.setIfInBounds_toArray, List.set_append_right, List.replicate_succ]

theorem makeBytes64 (w : World) : (Instr.makeSlice 26 (.int .i64 64) (.int .i64 64)).run Tryd.prog w =
    .ok (.slice (some ⟨w.heap.size, 0, none⟩) 64 64) (w.alloc (.cells (u8s (List.replicate 64 0)).toArray 5)) := by kernel_rfl

def RefMapBlockPost (w : World) (L : List (Int × Int)) (e : Ending) (w' : World) : Prop :=
  (allOkM L → e = .returned (.tuple #[.string (strOfNums (mapBytes L)), .int .i64 0])) ∧
  (¬ allOkM L → e = .returned (.tuple #[.string ByteArray.empty, .int .i64 22])) ∧ Below w.heap.size w w'

set_option maxHeartbeats 1600000 in
theorem refMapBlock_any (L : List (Int × Int)) (hX : L.length = 8) (w : World) :
    Calls Tryd.prog 11 #[.agg (flatM L).toArray] w (RefMapBlockPost w L) := by
  have hX' : (flatM L).length = 16 := by rw [flatM_length]; omega
  have hY' : (flatM L).toArray.size = 16 := by simpa using hX'
  have hget : ∀ k, k < 8 → _ := fun k hk => flatM_get L k (by omega)
  have hmemL : ∀ k, k < 8 → _ := fun k hk => getD_mem L (0, 0) k (by omega)
  have htake : ∀ k, k < 8 → _ := fun k hk => take_snoc L (0, 0) k (by omega)
  obtain ⟨Y, hY⟩ : ∃ Y, Y = (flatM L).toArray := ⟨_, rfl⟩
  rw [← hY] at hY' ⊢
  have HY := Lib.hid hY; clear hY
  obtain ⟨Z, hZ⟩ : ∃ Z, Z = (u8s (List.replicate 64 0)).toArray := ⟨_, rfl⟩
  have hmk := makeBytes64
  rw [← hZ] at hmk
  have HZ := Lib.hid hZ; clear hZ
  go_enter Tryd.func11, Tryd.ntmps11
  go_wp2_with fail
  clear hmk
  go_loopw [5] (fun i wr => ∃ k : Nat, k ≤ 8 ∧ i = .int .i64 k ∧ allOkM (L.take k) ∧ wr.heap[w.heap.size]? = some (.cells Y 33 (0, 0)) ∧ wr.heap[w.heap.size + 1]? = some (.cells (u8s (mapBytes (L.take k)) ++ List.replicate (64 - 8 * k) (Value.int .u8 0)).toArray 5 (0, 0)) ∧ Below w.heap.size w wr)
    (fun i _ => 8 - (intOf i).toNat)
  case atStart => exact ⟨0, by omega, rfl, by simp [allOkM], blk_old (blk_new rfl), by rw [blk_new (by simp), HZ.out]; rfl, ((Below.refl _ _).alloc (Nat.le_refl _) _).alloc (by simp) _⟩
  case round =>
    obtain ⟨k, hk, rfl, hok, h0, h1, hnx⟩ := hrel
    by_cases hlt : k < 8
    · obtain ⟨g0, g1⟩ := hget k hlt
      have hmem := hmemL k hlt
      have htk := htake k hlt
      clear hget hmemL htake
      obtain ⟨⟨a, v⟩, hp⟩ : ∃ p, p = L.getD k (0, 0) := ⟨_, rfl⟩
      rw [← hp] at g0 g1 hmem htk
      clear hp
      simp only at g0 g1
      have c0 := cell_blk_some h0 (i := k * 2) (v := .int .i64 a) (by rw [HY.out]; simpa using g0)
      have c1 := cell_blk_some h0 (i := k * 2 + 1) (v := .int .i64 v) (by rw [HY.out]; simpa using g1)
      have hlen : (u8s (mapBytes (L.take k)) ++ List.replicate (64 - 8 * k) (Value.int .u8 0)).length = 64 := by
        rw [List.length_append, u8s_length, mapBytes_length, List.length_take, List.length_replicate]; omega
      have ex : ∀ i, i < 64 → ∃ u, wr.cell? ⟨w.heap.size + 1, i, none⟩ = some u := fun i hi => ⟨_, cell_blk_some h1 (by rw [List.getElem?_toArray]; exact List.getElem?_eq_getElem (by omega))⟩
      obtain ⟨x0, x0'⟩ := ex (8 * k) (by omega)
      obtain ⟨x1, x1'⟩ := ex (8 * k + 1) (by omega)
      obtain ⟨x4, x4'⟩ := ex (8 * k + 4) (by omega)
      obtain ⟨x5, x5'⟩ := ex (8 * k + 5) (by omega)
      have f0 := free_blk (i := 8 * k) h1
      have f1 := free_blk (i := 8 * k + 1) h1
      have f4 := free_blk (i := 8 * k + 4) h1
      have f5 := free_blk (i := 8 * k + 5) h1
      have sz := blk_lt h1
      have R0 := Lib.hid h0; clear h0
      have R1 := Lib.hid h1; clear h1
      have HT := Lib.hid htk; clear htk
      clear ex hlen g0 g1
      by_cases hokk : okM a v
      · obtain ⟨o0, o1, o2, o3⟩ := id hokk
        have q0 : decide (a < 0) = false := dec_false (by omega)
        have q1 : decide (4095 < a) = false := dec_false (by omega)
        have q2 : decide (v < 0) = false := dec_false (by omega)
        have q3 : decide (65535 < v) = false := dec_false (by omega)
        go_wp2_with fail
        go_roundw
        case rel =>
          refine ⟨k + 1, by omega, by go_num, ?_, ?_, ?_, ?_⟩
          · rw [HT.out]; intro p hp; rcases List.mem_append.1 hp with h | h
            · exact hok p h
            · simp at h; subst h; exact hokk
          · exact blk_old (blk_set_other (blk_set_other (blk_set_other (blk_set_other R0.out (by simp) _) (by simp) _) (by simp) _) (by simp) _)
          · have := blk_set (i := 8 * k + 5) (blk_set (i := 8 * k + 4) (blk_set (i := 8 * k + 1) (blk_set (i := 8 * k) R1.out (.int .u8 (a % 256))) (.int .u8 (a / 256))) (.int .u8 (v % 256))) (.int .u8 (v / 256))
            refine blk_old (this.trans ?_)
            have hl : (u8s (mapBytes (L.take k))).length = 8 * k := by rw [u8s_length, mapBytes_length, List.length_take]; omega
            have hs := set_b8 (u8s (mapBytes (L.take k))) (64 - 8 * (k + 1)) (.int .u8 (a % 256)) (.int .u8 (a / 256)) (.int .u8 (v % 256)) (.int .u8 (v / 256)) (.int .u8 0)
            rw [hl, show 64 - 8 * (k + 1) + 8 = 64 - 8 * k by omega] at hs
            rw [hs, HT.out, mapBytes_snoc, u8s_append]
            rfl
          · exact below_alloc ((((hnx.setCell (by simp) _).setCell (by simp) _).setCell (by simp) _).setCell (by simp) _) (Nat.le_refl _) _
        case measure => simp [intOf]; omega
      · have h' : decide (a < 0) = true ∨ (decide (a < 0) = false ∧ decide (4095 < a) = true) ∨ (decide (a < 0) = false ∧ decide (4095 < a) = false ∧ decide (v < 0) = true) ∨ (decide (a < 0) = false ∧ decide (4095 < a) = false ∧ decide (v < 0) = false ∧ decide (65535 < v) = true) := by
          unfold okM at hokk; simp only [decide_eq_true_eq, decide_eq_false_iff_not]; omega
        have HN := Lib.hid hokk; clear hokk
        rcases h' with q0 | ⟨q0, q1⟩ | ⟨q0, q1, q2⟩ | ⟨q0, q1, q2, q3⟩
        all_goals
          go_wp2_with fail
          go_ret2
          exact ⟨fun h => absurd (h _ hmem) HN.out, fun _ => rfl, below_alloc hnx (Nat.le_refl _) _⟩
    · obtain rfl : k = 8 := by omega
      rw [List.take_of_length_le (by omega)] at hok h1
      have hm : (mapBytes L).length = 64 := by rw [mapBytes_length]; omega
      have hcv := strOf_row wr (w.heap.size + 1) (mapBytes L) (by rw [h1]; simp) 64
      rw [hm] at hcv
      clear hget hmemL htake h0 h1 hm
      go_wp2_with fail
      go_ret2
      exact ⟨fun _ => rfl, fun h => absurd hok h, hnx⟩
end Go.Proofs.YtggfdhjckohmjaaDoor
