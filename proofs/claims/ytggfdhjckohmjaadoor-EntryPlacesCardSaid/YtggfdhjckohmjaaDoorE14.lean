/- Walks of marllaw07.awake and of the six statements of chapter 7: each returns true. -/
import Derived.Test.YtggfdhjckohmjaaDoorE13
import Derived.Deep.WholeRow
namespace Go.Proofs.YtggfdhjckohmjaaDoor
open Go.RowKit

theorem makeBytes64_at (w : World) : ∀ (xs : List Int), xs = List.replicate 64 0 → (Instr.makeSlice 26 (.int .i64 64) (.int .i64 64)).run Tryd.prog w =
    .ok (.slice (some ⟨w.heap.size, 0, none⟩) 64 64) (w.alloc (.cells (u8s xs).toArray 5)) := by
  rintro _ rfl; exact makeBytes64 w
theorem bytes_blk {w : World} {g : Nat} {xs : List Int} (h : w.heap[g]? = some (.cells (u8s xs).toArray 5 (0, 0))) : BytesAt w g 0 xs := by
  intro i hi
  rw [Nat.zero_add, cell_blk h]
  simp [u8s, List.getElem?_eq_getElem hi]
theorem isBytes_zeros (n : Nat) : isBytes (List.replicate n 0) := by
  intro i
  rw [List.getD_eq_getElem?_getD, List.getElem?_replicate]
  split <;> simp

theorem flatM_one (L : List (Int × Int)) : (flatM L).toArray.all (·.oneCell') = true := by
  refine all_oneCell_toArray fun v hv => ?_
  obtain ⟨p, _, hv⟩ := List.mem_flatMap.1 hv
  rcases List.mem_cons.1 hv with rfl | hv
  · rfl
  · obtain rfl := List.mem_singleton.1 hv; rfl

theorem allOkD_nil : allOkD (List.replicate 4 nilDE) := fun p hp => by
  rw [List.eq_of_mem_replicate hp]; exact .inl ⟨rfl, rfl⟩
theorem decD_zeros : decD (List.replicate 64 0) = List.replicate 4 nilDE := by
  have h : List.replicate 64 (0 : Int) = dirBytes (List.replicate 4 nilDE) := by decide
  rw [h]; exact decD_dir _ allOkD_nil rfl
theorem decI_zeros : decI (List.replicate 64 0) = List.replicate 8 (0, 0) := by decide

theorem awake_any (w : World) :
    Calls Tryd.prog 9 #[] w fun e w' => e = .returned (.bool true) ∧ Below w.heap.size w w' := by
  obtain ⟨xs, hxs⟩ : ∃ xs : List Int, xs = List.replicate 64 0 := ⟨_, rfl⟩
  have hmk := fun w => makeBytes64_at w xs hxs
  have hxl : xs.length = 64 := by rw [hxs]; rfl
  have hxb : isBytes xs := by rw [hxs]; exact isBytes_zeros 64
  have hM : allOkM (decI xs) ∧ mapBytes (decI xs) = xs := by rw [hxs, decI_zeros]; decide
  have hD : allOkD (decD xs) ∧ dirBytes (decD xs) = xs := by rw [hxs, decD_zeros]; exact ⟨allOkD_nil, by decide⟩
  have q1 : ∀ w, (Op.equalIn 10000 24 (.agg (flatM (decI xs)).toArray) (.agg #[.int .i64 0, .int .i64 0, .int .i64 0, .int .i64 0, .int .i64 0, .int .i64 0, .int .i64 0, .int .i64 0, .int .i64 0, .int .i64 0, .int .i64 0, .int .i64 0, .int .i64 0, .int .i64 0, .int .i64 0, .int .i64 0])).run Tryd.prog w = .ok true w := fun w => by
    rw [hxs, decI_zeros]; exact (eqInM 9997 (List.replicate 8 (0, 0)) (List.replicate 8 (0, 0)) rfl rfl w).trans (by rw [decide_eq_true rfl])
  have q2 : ∀ w, (Op.equalIn 10000 40 (.agg (flatD (decD xs)).toArray) (.agg #[.int .i64 0, .string ⟨#[]⟩, .int .i64 0, .string ⟨#[]⟩, .int .i64 0, .string ⟨#[]⟩, .int .i64 0, .string ⟨#[]⟩])).run Tryd.prog w = .ok true w := fun w => by
    rw [hxs, decD_zeros]; exact (eqInD 9997 (List.replicate 4 nilDE) (List.replicate 4 nilDE) rfl rfl w).trans (by rw [decide_eq_true rfl])
  have HXS := Lib.hid hxs; clear hxs
  have HXL := Lib.hid hxl; clear hxl
  obtain ⟨Y, hY⟩ : ∃ Y, Y = (flatM (decI xs)).toArray := ⟨_, rfl⟩
  obtain ⟨Z, hZ⟩ : ∃ Z, Z = (flatD (decD xs)).toArray := ⟨_, rfl⟩
  have hYs : Y.size = 16 := by rw [hY]; simp [flatM_length, decI_length]
  have hone : Y.all (·.oneCell') = true := by rw [hY]; exact flatM_one _
  have hst := fun (w : World) (c : Array Value) (hc : c.size = 16) => run_storeCells_new (P := Tryd.prog) w 24 c Y (by rw [hYs]; kernel_rfl) (by rw [hc, hYs]) hone
  have hZs : Z.size = 8 := by rw [hZ]; simp [flatD_length, decD_length]
  have hone2 : Z.all (·.oneCell') = true := by rw [hZ]; exact flatD_one _
  have hst2 := fun (w : World) (c : Array Value) (hc : c.size = 8) => run_storeCells_new (P := Tryd.prog) w 40 c Z (by rw [hZs]; kernel_rfl) (by rw [hc, hZs]) hone2
  rw [← hY] at q1
  rw [← hZ] at q2
  have HY := Lib.hid hY; clear hY
  have HZ := Lib.hid hZ; clear hZ
  have HM := Lib.hid hM; clear hM
  have HD := Lib.hid hD; clear hD
  have g1 : Tryd.prog.eqGuardType Tryd.prog.depth 24 = false := by kernel_rfl
  have g2 : Tryd.prog.eqGuardType Tryd.prog.depth 40 = false := by kernel_rfl
  go_enter Tryd.func9, Tryd.ntmps9
  go_wp2_with fail
  refine (readMap_any xs HXL.out hxb w.heap.size 0 64 (Nat.le_refl _) _ (by simp) (bytes_blk (blk_new rfl))).mono ?_
  rintro e w1 ⟨h1, _, hb1⟩
  obtain rfl := h1 HM.out
  clear h1
  have hbel1 := below_call (below_alloc (Below.refl _ w) (Nat.le_refl _) _) hb1 (Nat.le_refl _)
  clear hb1
  rw [← HY.out]
  go_wp2_with fail
  refine (readDir_any xs HXL.out hxb (w1.heap.size + 1) 0 64 (Nat.le_refl _) _ (by simp) (bytes_blk (blk_new (by simp)))).mono ?_
  rintro e w2 ⟨h1, _, hb2⟩
  obtain rfl := h1 HD.out
  clear h1
  have hbel2 := below_call (below_alloc (below_alloc hbel1 (Nat.le_refl _) _) (Nat.le_refl _) _) hb2 (Nat.le_refl _)
  have kY : w2.heap[w1.heap.size]? = some (.cells Y 24 (0, 0)) := blk_below hb2 (by simp; omega) (blk_old (blk_new rfl))
  clear hb2
  rw [← HZ.out]
  have KY := Lib.hid kY; clear kY
  have KZ := Lib.hid (@blk_new w2 (.cells Z 40 (0, 0)) w2.heap.size rfl)
  go_wp2_with (refine wpList_load_row rfl 24 _ rfl _ rfl 24 _ _ _ (blk_old KY.out) Tryd.underlying24 rfl (by rw [hYs]; kernel_rfl) ?_)
  have hmb := mapBlock_any (decI xs) (decI_length xs) (w2.alloc (Obj.cells Z 40))
  rw [← HY.out] at hmb
  refine hmb.mono ?_
  clear hmb
  rintro e w3 ⟨h1, _, hb3⟩
  obtain ⟨x, y, rfl, hown, rfl⟩ := h1 HM.out.1
  clear h1
  rw [decI_length] at hown
  obtain ⟨g, c, rfl, _, _, _⟩ := own_shape hown (by omega)
  have hbel3 := below_call (below_alloc hbel2 (Nat.le_refl _) _) hb3 (Nat.le_refl _)
  have kY3 := Lib.hid (blk_below hb3 (by have := blk_lt KY.out; simp; omega) (blk_old KY.out))
  have kZ3 := Lib.hid (blk_below hb3 (by simp) KZ.out)
  clear hb3 hown hbel1 hbel2 KY KZ
  have hname := Lib.hid (fun w => entryName_any ⟨#[46, 46]⟩ (by decide) w)
  go_wp2_with (first
    | (refine wpList_load_rowg rfl 24 _ rfl _ rfl 24 _ _ _ kY3.out Tryd.underlying24 rfl (by rw [hYs]; kernel_rfl) ?_)
    | (refine wpList_load_rowg rfl 40 _ rfl _ rfl 40 _ _ _ kZ3.out Tryd.underlying40 rfl (by rw [hZs]; kernel_rfl) ?_))
  refine (hname.out _).mono ?_
  rintro e w4 ⟨rfl, hb4⟩
  have hn22 : nameE (ByteArray.mk #[46, 46]).data.toList = 22 := by decide
  rw [hn22]
  go_wp2_with fail
  go_ret
  exact ⟨rfl, below_call hbel3 hb4 (Nat.le_refl _)⟩
end Go.Proofs.YtggfdhjckohmjaaDoor
