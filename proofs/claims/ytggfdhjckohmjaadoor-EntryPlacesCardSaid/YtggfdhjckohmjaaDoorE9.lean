/- Walks of marllaw07.refDir, marlref07.DirBlock: what each computes. -/
import Derived.Test.YtggfdhjckohmjaaDoorE8
namespace Go.Proofs.YtggfdhjckohmjaaDoor
open Go.RowKit

def zsD : List Value := [.int .i64 0, .string ⟨#[]⟩, .int .i64 0, .string ⟨#[]⟩, .int .i64 0, .string ⟨#[]⟩, .int .i64 0, .string ⟨#[]⟩]

theorem refDir_any (L : List DE) (hX : L.length = 4) (w : World) :
    Calls Tryd.prog 16 #[.agg (flatD L).toArray] w (fun e w' => e = .returned (.agg (flatD L).toArray) ∧ Below w.heap.size w w') := by
  have hX' : (flatD L).length = 8 := by rw [flatD_length]; omega
  have hY' : (flatD L).toArray.size = 8 := by simpa using hX'
  have hget : ∀ k, k < 4 → _ := fun k hk => flatD_get L k (by omega)
  obtain ⟨Y, hY⟩ : ∃ Y, Y = (flatD L).toArray := ⟨_, rfl⟩
  rw [← hY] at hY' ⊢
  have HY := Lib.hid hY; clear hY
  go_enter Tryd.func16, Tryd.ntmps16
  go_wp2_with fail
  go_loopw [4, 5] (fun _ i wr => ∃ k : Nat, k ≤ 4 ∧ i = .int .i64 k ∧ wr.heap[w.heap.size]? = some (.cells Y 40 (0, 0)) ∧ (∃ C, wr.heap[w.heap.size + 1]? = some (.cells C 44 (0, 0)) ∧ C.size = 8) ∧ wr.heap[w.heap.size + 1 + 1]? = some (.cells (fill (flatD L) zsD (k * 2)).toArray 44 (0, 0)) ∧ Below w.heap.size w wr)
    (fun _ i _ => 4 - (intOf i).toNat)
  case atStart => exact ⟨0, by omega, rfl, blk_old (blk_old (blk_new rfl)), ⟨_, blk_old (blk_new (by simp)), rfl⟩, blk_new (by simp), (((Below.refl _ _).alloc (Nat.le_refl _) _).alloc (by simp) _).alloc (by simp; omega) _⟩
  case round =>
    obtain ⟨k, hk, rfl, h0, ⟨C, h1, hC⟩, h2, hnx⟩ := hrel
    by_cases hlt : k < 4
    · obtain ⟨g0, g1⟩ := hget k hlt
      clear hget
      obtain ⟨⟨a, v⟩, hp⟩ : ∃ p, p = L.getD k nilDE := ⟨_, rfl⟩
      rw [← hp] at g0 g1
      clear hp
      simp only at g0 g1
      have c0 := cell_blk_some h0 (i := k * 2) (v := .int .i64 a) (by rw [HY.out]; simpa using g0)
      have c1 := cell_blk_some h0 (i := k * 2 + 1) (v := .string v) (by rw [HY.out]; simpa using g1)
      have sz := blk_lt h2
      have R0 := Lib.hid h0; clear h0
      have R1 := Lib.hid h1; clear h1
      have hl := fill_length (flatD L) zsD (k * 2) (by rw [hX']; rfl)
      have e2 : ∃ u, wr.cell? ⟨w.heap.size + 1 + 1, k * 2, none⟩ = some u := ⟨_, cell_blk_some h2 (by rw [List.getElem?_toArray]; exact List.getElem?_eq_getElem (by omega))⟩
      have e3 : ∃ u, wr.cell? ⟨w.heap.size + 1 + 1, k * 2 + 1, none⟩ = some u := ⟨_, cell_blk_some h2 (by rw [List.getElem?_toArray]; exact List.getElem?_eq_getElem (by omega))⟩
      obtain ⟨u2, e2⟩ := e2
      obtain ⟨u3, e3⟩ := e3
      have f2 := free_blk (i := k * 2) h2
      have f3 := free_blk (i := k * 2 + 1) h2
      have R2 := Lib.hid h2; clear h2
      have G0 := Lib.hid g0; clear g0
      have G1 := Lib.hid g1; clear g1
      have HX := Lib.hid hX'; clear hX'
      clear hl
      go_wp2_with fail
      go_still_tail 11, (by kernel_rfl)
      go_wp2_with fail
      go_roundw
      case rel =>
        refine ⟨k + 1, by omega, by go_num, ?_, ⟨C, ?_, hC⟩, ?_, ?_⟩
        · exact blk_set_other (blk_set_other R0.out (by simp; omega) _) (by simp; omega) _
        · exact blk_set_other (blk_set_other R1.out (by simp) _) (by simp) _
        · have := blk_set (i := k * 2 + 1) (blk_set (i := k * 2) R2.out (.int .i64 a)) (.string v)
          rw [fill_set _ _ _ (by rw [HX.out]; rfl) (by rw [HX.out]; omega) _ G0.out, fill_set _ _ _ (by rw [HX.out]; rfl) (by rw [HX.out]; omega) _ G1.out] at this
          rw [show (k + 1) * 2 = k * 2 + 1 + 1 by omega]
          exact this
        · exact ((hnx.setCell (by simp; omega) _).setCell (by simp; omega) _).drew
      case measure => simp [intOf]; omega
    · obtain rfl : k = 4 := by omega
      rw [show 4 * 2 = (flatD L).length by omega, fill_all _ _ (by rw [hX']; rfl), ← HY.out] at h2
      clear hget
      have hone : Y.all (·.oneCell') = true := by rw [HY.out]; exact flatD_one L
      go_wp2_with (first | (refine wpList_load_row rfl 44 _ rfl _ rfl 44 _ _ _ h2 Tryd.underlying44 rfl (by rw [hY']; kernel_rfl) ?_) | (refine wpList_store_row rfl 44 _ _ rfl _ _ rfl rfl 44 _ h1 (by rw [hY']; kernel_rfl) (by rw [hC, hY']) hone ?_))
      refine bodyPost_ret (v := .agg Y) (results_cell_row rfl _ _ _ _ Y (0, 0) _ rfl (setRow_heap _ _ _ _ _ _ h1) Tryd.underlying44 rfl (by rw [hY']; kernel_rfl)) rfl ⟨rfl, ?_⟩
      exact below_setRow hnx (by omega) _


/-! ### marlref07.DirBlock -/
def RefDirBlockPost (w : World) (L : List DE) (e : Ending) (w' : World) : Prop :=
  (allOkD L → e = .returned (.tuple #[.string (strOfNums (dirBytes L)), .int .i64 0])) ∧
  (¬ allOkD L → e = .returned (.tuple #[.string ByteArray.empty, .int .i64 22])) ∧ Below w.heap.size w w'

/-- Which way the test of one entry goes: 0 free, 1 no entry by its number, 2 by its name, 3 an entry. -/
theorem okD_ways (a : Int) (v : ByteArray) (P : Prop)
    (h0 : a = 0 → v.toList.isEmpty = true → okD a v.data.toList → P)
    (h1 : a = 0 → v.toList.isEmpty = false → ¬ okD a v.data.toList → P)
    (h2 : (a == 0) = false → decide (a < 1) = true → ¬ okD a v.data.toList → P)
    (h3 : (a == 0) = false → decide (a < 1) = false → decide (200 < a) = true → 1 ≤ a → ¬ okD a v.data.toList → P)
    (h4 : (a == 0) = false → decide (a < 1) = false → decide (200 < a) = false → 1 ≤ a → a ≤ 200 → (nameE v.data.toList != 0) = true → ¬ okD a v.data.toList → P)
    (h5 : (a == 0) = false → decide (a < 1) = false → decide (200 < a) = false → 1 ≤ a → a ≤ 200 → (nameE v.data.toList != 0) = false → okD a v.data.toList → P) : P := by
  have ht := ByteArray.toList_eq v
  by_cases z : a = 0
  · cases e1 : v.toList.isEmpty
    · refine h1 z e1 ?_
      rintro (⟨_, h⟩ | ⟨h, _⟩)
      · rw [ht, h] at e1; cases e1
      · omega
    · exact h0 z e1 (.inl ⟨z, by rw [← ht]; simpa using e1⟩)
  · have zb : (a == 0) = false := beq_eq_false_iff_ne.2 z
    by_cases l : a < 1
    · exact h2 zb (dec_true l) (by rintro (⟨h, _⟩ | ⟨h, _⟩) <;> omega)
    · by_cases g : 200 < a
      · exact h3 zb (dec_false l) (dec_true g) (by omega) (by rintro (⟨h, _⟩ | ⟨_, h, _⟩) <;> omega)
      · cases hn : (nameE v.data.toList != 0)
        · exact h5 zb (dec_false l) (dec_false g) (by omega) (by omega) hn (.inr ⟨by omega, by omega, by simpa using hn⟩)
        · refine h4 zb (dec_false l) (dec_false g) (by omega) (by omega) hn ?_
          rintro (⟨h, _⟩ | ⟨_, _, h⟩)
          · omega
          · rw [h] at hn; cases hn

theorem strOf_new2 (w : World) (bx : Obj) (x y : Int) : (convert 26 9 (.slice (some ⟨w.heap.size + 1, 0, none⟩) 2 2)).run Tryd.prog ((w.alloc bx).alloc (Obj.cells #[Value.int IntKind.u8 x, Value.int IntKind.u8 y] 5)) =
    .ok (.string (strOfNums [x, y])) ((w.alloc bx).alloc (Obj.cells #[Value.int IntKind.u8 x, Value.int IntKind.u8 y] 5)) :=
  strOf_row _ _ [x, y] (blk_new (by simp)) 2
theorem strOfNums_append (xs ys : List Int) : strOfNums xs ++ strOfNums ys = strOfNums (xs ++ ys) := by
  have : ∀ (a b : ByteArray), a.data.toList = b.data.toList → a = b := fun a b h => by
    cases a; cases b; congr 1; exact Array.ext' h
  refine this _ _ ?_
  rw [Joins.data_append]; simp [strOfNums]
theorem strOfNums_nums (s : ByteArray) : strOfNums (nums s.data.toList) = s := by
  obtain ⟨d⟩ := s
  simp only [strOfNums, nums, List.map_map]
  congr 1
  apply Array.ext'
  rw [List.map_congr_left (g := id) (fun b _ => by simp)]
  simp
def padD (D : List Int) (a : Int) (l : List UInt8) (m : Nat) : ByteArray := strOfNums (D ++ [a, 0] ++ nums l ++ List.replicate m 0)
theorem padD_size (D : List Int) (a : Int) (l : List UInt8) (m : Nat) : (padD D a l m).size = D.length + 2 + l.length + m := by
  unfold padD; rw [strOfNums_size]; simp [nums]; omega
theorem padD_zero (D : List Int) (a : Int) (v : ByteArray) : strOfNums D ++ strOfNums [a, 0] ++ v = padD D a v.data.toList 0 := by
  unfold padD
  rw [List.replicate_zero, List.append_nil, ← strOfNums_append, strOfNums_nums, strOfNums_append]
theorem padD_succ (D : List Int) (a : Int) (l : List UInt8) (m : Nat) : padD D a l m ++ ⟨#[0]⟩ = padD D a l (m + 1) := by
  have h0 : (⟨#[0]⟩ : ByteArray) = strOfNums [0] := by simp [strOfNums]
  rw [h0]; unfold padD
  rw [strOfNums_append, List.replicate_succ']; simp
theorem padD_full (L : List DE) (k : Nat) (a : Int) (v : ByteArray) : padD (dirBytes (L.take k)) a v.data.toList (14 - v.data.toList.length) = strOfNums (dirBytes (L.take k) ++ b16 a v.data.toList) := by
  unfold padD b16; simp
def lenOfS : Value → Nat | .string s => s.size | _ => 0

theorem refDirBlock_any (L : List DE) (hX : L.length = 4) (hsh : shortD L) (w : World) :
    Calls Tryd.prog 15 #[.agg (flatD L).toArray] w (RefDirBlockPost w L) := by
  have hX' : (flatD L).length = 8 := by rw [flatD_length]; omega
  have hY' : (flatD L).toArray.size = 8 := by simpa using hX'
  have hget : ∀ k, k < 4 → _ := fun k hk => flatD_get L k (by omega)
  have hmemL : ∀ k, k < 4 → _ := fun k hk => getD_mem L nilDE k (by omega)
  have htake : ∀ k, k < 4 → _ := fun k hk => take_snoc L nilDE k (by omega)
  obtain ⟨Y, hY⟩ : ∃ Y, Y = (flatD L).toArray := ⟨_, rfl⟩
  rw [← hY] at hY' ⊢
  have HY := Lib.hid hY; clear hY
  go_enter Tryd.func15, Tryd.ntmps15
  go_wp2_with fail
  go_loopw [4, 5] (fun t i wr => ∃ k : Nat, k ≤ 4 ∧ i = .int .i64 k ∧ allOkD (L.take k) ∧ t = .string (strOfNums (dirBytes (L.take k))) ∧ wr.heap[w.heap.size]? = some (.cells Y 44 (0, 0)) ∧ Below w.heap.size w wr)
    (fun _ i _ => 4 - (intOf i).toNat)
  case atStart => exact ⟨0, by omega, rfl, by simp [allOkD], rfl, blk_new rfl, (Below.refl _ _).alloc (Nat.le_refl _) _⟩
  case round =>
    obtain ⟨k, hk, rfl, hok, rfl, h0, hnx⟩ := hrel
    by_cases hlt : k < 4
    · obtain ⟨g0, g1⟩ := hget k hlt
      have hmem := hmemL k hlt
      have htk := htake k hlt
      clear hget hmemL htake
      have hsz := hsh _ hmem
      have hDl := dirBytes_length (L.take k) hok
      rw [List.length_take] at hDl
      have hDl' : (dirBytes (L.take k)).length = 16 * k := by omega
      clear hDl
      obtain ⟨⟨a, v⟩, hp⟩ : ∃ p, p = L.getD k nilDE := ⟨_, rfl⟩
      rw [← hp] at g0 g1 hmem htk hsz
      clear hp
      simp only at g0 g1 hsz
      have c0 := cell_blk_some h0 (i := k * 2) (v := .int .i64 a) (by rw [HY.out]; simpa using g0)
      have c1 := cell_blk_some h0 (i := k * 2 + 1) (v := .string v) (by rw [HY.out]; simpa using g1)
      have sz := blk_lt h0
      have R0 := Lib.hid h0; clear h0
      have HT := Lib.hid htk; clear htk
      obtain ⟨S, hS⟩ : ∃ S, S = strOfNums (dirBytes (L.take k)) := ⟨_, rfl⟩
      rw [← hS]
      have hSs : S.size = 16 * k := by rw [hS, strOfNums_size, hDl']
      have HS := Lib.hid hS
      have HSs := Lib.hid hSs
      have hSle : S.size ≤ 64 := by omega
      have HD := Lib.hid hDl'
      have hcv := strOf_new2 wr
      have hs2 : ∀ x y, (strOfNums [x, y]).size = 2 := fun x y => strOfNums_size _
      clear hS hSs hDl' g0 g1
      refine okD_ways a v _ ?_ ?_ ?_ ?_ ?_ ?_
      · rintro rfl e1 hokk
        have HV := Lib.hid (okD_short hokk)
        have hv40 := hsz
        have HOK := Lib.hid hokk; clear hokk
        go_wp2_with fail
        go_loop [4] (fun t => ∃ m : Nat, m ≤ 14 - v.data.toList.length ∧ t = .string (padD (dirBytes (L.take k)) 0 v.data.toList m)) (fun t => 80 - lenOfS t)
        case atStart => exact ⟨0, Nat.zero_le _, by rw [HS.out, padD_zero]⟩
        case round =>
          obtain ⟨m, hm, rfl⟩ := hrel
          have hps := padD_size (dirBytes (L.take k)) 0 v.data.toList m
          rw [HD.out] at hps
          have hpn := padD_succ (dirBytes (L.take k)) 0 v.data.toList m
          have HPN := Lib.hid hpn
          have HFU := Lib.hid (padD_full L k 0 v)
          obtain ⟨T, hT⟩ : ∃ T, T = padD (dirBytes (L.take k)) 0 v.data.toList m := ⟨_, rfl⟩
          rw [← hT] at hps ⊢
          have HTT := Lib.hid hT
          have hv14 : v.data.toList.length ≤ 14 := HV.out
          have hTs : T.size ≤ 80 := by omega
          have hps1 : T.size ≤ 16 * k + 2 + v.data.toList.length + m := by omega
          have hps2 : 16 * k + 2 + v.data.toList.length + m ≤ T.size := by omega
          clear hpn hT hps
          by_cases hlt2 : m < 14 - v.data.toList.length
          · go_wp2_with fail
            go_round
            case rel => exact ⟨m + 1, by omega, by rw [HTT.out, HPN.out]⟩
            case measure =>
              show 80 - (T ++ ⟨#[0]⟩).size < 80 - T.size
              rw [ByteArray.size_append]
              show 80 - (T.size + 1) < _
              omega
          · go_wp2_with fail
            go_roundw
            case rel =>
              refine ⟨k + 1, by omega, by go_num, ?_, ?_, blk_old (blk_old R0.out), below_alloc (below_alloc hnx (Nat.le_refl _) _) (Nat.le_refl _) _⟩
              · rw [HT.out]; intro p hp; rcases List.mem_append.1 hp with h | h
                · exact hok p h
                · simp at h; subst h; exact HOK.out
              · rw [HTT.out, HT.out, dirBytes_snoc, ← HFU.out]
                congr 2; omega
            case measure => simp [intOf]; omega
      · rintro rfl e1 hokk
        go_wp2_with fail
        go_ret2
        exact ⟨fun h => absurd (h _ hmem) hokk, fun _ => rfl, below_alloc hnx (Nat.le_refl _) _⟩
      · rintro z1 z2 hokk
        go_wp2_with fail
        go_ret2
        exact ⟨fun h => absurd (h _ hmem) hokk, fun _ => rfl, below_alloc hnx (Nat.le_refl _) _⟩
      · rintro z1 z2 z3 z4 hokk
        go_wp2_with fail
        go_ret2
        exact ⟨fun h => absurd (h _ hmem) hokk, fun _ => rfl, below_alloc hnx (Nat.le_refl _) _⟩
      · rintro z1 z2 z3 z4 z5 z6 hokk
        have HOK := Lib.hid hokk; clear hokk
        go_wp2_with (go_at_call 21; refine (refName_any v (by omega) _).mono ?_; rintro e w1 ⟨rfl, hw⟩; have hw' := hw.symm; subst hw')
        go_ret2
        exact ⟨fun h => absurd (h _ hmem) HOK.out, fun _ => rfl, below_alloc hnx (Nat.le_refl _) _⟩
      · rintro z1 z2 z3 z4 z5 z6 hokk
        have HV := Lib.hid (okD_short hokk)
        have HOK := Lib.hid hokk; clear hokk
        go_wp2_with (go_at_call 21; refine (refName_any v (by omega) _).mono ?_; rintro e w1 ⟨rfl, hw⟩; have hw' := hw.symm; subst hw')
        go_loop [4] (fun t => ∃ m : Nat, m ≤ 14 - v.data.toList.length ∧ t = .string (padD (dirBytes (L.take k)) a v.data.toList m)) (fun t => 80 - lenOfS t)
        case atStart => exact ⟨0, Nat.zero_le _, by rw [HS.out, padD_zero]⟩
        case round =>
          obtain ⟨m, hm, rfl⟩ := hrel
          have hps := padD_size (dirBytes (L.take k)) a v.data.toList m
          rw [HD.out] at hps
          have hpn := padD_succ (dirBytes (L.take k)) a v.data.toList m
          have HPN := Lib.hid hpn
          have HFU := Lib.hid (padD_full L k a v)
          obtain ⟨T, hT⟩ : ∃ T, T = padD (dirBytes (L.take k)) a v.data.toList m := ⟨_, rfl⟩
          rw [← hT] at hps ⊢
          have HTT := Lib.hid hT
          have hv14 : v.data.toList.length ≤ 14 := HV.out
          have hTs : T.size ≤ 80 := by omega
          have hps1 : T.size ≤ 16 * k + 2 + v.data.toList.length + m := by omega
          have hps2 : 16 * k + 2 + v.data.toList.length + m ≤ T.size := by omega
          clear hpn hT hps
          by_cases hlt2 : m < 14 - v.data.toList.length
          · go_wp2_with fail
            go_round
            case rel => exact ⟨m + 1, by omega, by rw [HTT.out, HPN.out]⟩
            case measure =>
              show 80 - (T ++ ⟨#[0]⟩).size < 80 - T.size
              rw [ByteArray.size_append]
              show 80 - (T.size + 1) < _
              omega
          · go_wp2_with fail
            go_roundw
            case rel =>
              refine ⟨k + 1, by omega, by go_num, ?_, ?_, blk_old (blk_old R0.out), below_alloc (below_alloc hnx (Nat.le_refl _) _) (Nat.le_refl _) _⟩
              · rw [HT.out]; intro p hp; rcases List.mem_append.1 hp with h | h
                · exact hok p h
                · simp at h; subst h; exact HOK.out
              · rw [HTT.out, HT.out, dirBytes_snoc, ← HFU.out]
                congr 2; omega
            case measure => simp [intOf]; omega
    · obtain rfl : k = 4 := by omega
      rw [List.take_of_length_le (by omega)] at hok ⊢
      clear hget hmemL htake h0
      go_wp2_with fail
      go_ret2
      exact ⟨fun _ => rfl, fun h => absurd hok h, hnx⟩
end Go.Proofs.YtggfdhjckohmjaaDoor
