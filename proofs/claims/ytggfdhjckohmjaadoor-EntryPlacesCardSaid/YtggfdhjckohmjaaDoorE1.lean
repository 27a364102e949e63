/- Walks of the map entries' functions (entry.MapBlock, entry.ReadMap, the document's, and what they call): what each computes. No condition but on sizes. -/
import Derived.Test.YtggfdhjckohmjaaDoorBase
namespace Go.Proofs.YtggfdhjckohmjaaDoor
open Go.RowKit

/-! ### plain words -/
def okM (a v : Int) : Prop := 0 ≤ a ∧ a < 4096 ∧ 0 ≤ v ∧ v < 65536
instance (a v : Int) : Decidable (okM a v) := by unfold okM; infer_instance
def b8 (a v : Int) : List Int := [a % 256, a / 256, 0, 0, v % 256, v / 256, 0, 0]
theorem b8_length (a v : Int) : (b8 a v).length = 8 := rfl
def mapBytes (L : List (Int × Int)) : List Int := L.flatMap fun p => b8 p.1 p.2
theorem mapBytes_length (L : List (Int × Int)) : (mapBytes L).length = 8 * L.length := by
  induction L with
  | nil => rfl
  | cons p L ih => simp only [mapBytes, List.flatMap_cons, List.length_append, List.length_cons, b8_length] at ih ⊢; omega
theorem mapBytes_snoc (L : List (Int × Int)) (p : Int × Int) : mapBytes (L ++ [p]) = mapBytes L ++ b8 p.1 p.2 := by simp [mapBytes]
def allOkM (L : List (Int × Int)) : Prop := ∀ p ∈ L, okM p.1 p.2
instance (L : List (Int × Int)) : Decidable (allOkM L) := by unfold allOkM; infer_instance
def flatM (L : List (Int × Int)) : List Value := L.flatMap fun p => [.int .i64 p.1, .int .i64 p.2]
theorem flatM_length (L : List (Int × Int)) : (flatM L).length = 2 * L.length := by
  induction L with
  | nil => rfl
  | cons p L ih => simp only [flatM, List.flatMap_cons, List.length_append, List.length_cons, List.length_nil] at ih ⊢; omega
theorem flatM_get (L : List (Int × Int)) (k : Nat) (h : k < L.length) : (flatM L)[k * 2]? = some (.int .i64 (L.getD k (0, 0)).1) ∧ (flatM L)[k * 2 + 1]? = some (.int .i64 (L.getD k (0, 0)).2) := by
  induction L generalizing k with
  | nil => simp at h
  | cons p L ih =>
    cases k with
    | zero => simp [flatM]
    | succ k =>
      have := ih k (by simpa using h)
      rw [show (k + 1) * 2 = k * 2 + 1 + 1 from by omega]
      simpa [flatM] using this
theorem take_snoc {α : Type} (L : List α) (z : α) (k : Nat) (h : k < L.length) : L.take (k + 1) = L.take k ++ [L.getD k z] := by
  rw [List.take_succ_eq_append_getElem h, List.getD_eq_getElem?_getD, List.getElem?_eq_getElem h]; rfl
theorem getD_mem {α : Type} (L : List α) (z : α) (k : Nat) (h : k < L.length) : L.getD k z ∈ L := by
  rw [List.getD_eq_getElem?_getD, List.getElem?_eq_getElem h]; exact List.getElem_mem h
def u8s (xs : List Int) : List Value := xs.map (Value.int .u8)
theorem u8s_length (xs : List Int) : (u8s xs).length = xs.length := by simp [u8s]
theorem u8s_append (xs ys : List Int) : u8s (xs ++ ys) = u8s xs ++ u8s ys := by simp [u8s]
theorem u8s_one (xs : List Int) : ∀ u ∈ u8s xs, u.oneCell' = true := by
  intro u hu; obtain ⟨x, _, rfl⟩ := List.mem_map.1 hu; rfl

/-- In new memory there lies a row of just these bytes. -/
def NewBytes (w w' : World) (v : Value) (xs : List Int) : Prop :=
  ∃ g, v = .slice (some ⟨g, 0, none⟩) xs.length xs.length ∧ w.heap.size ≤ g ∧ w'.heap[g]? = some (.cells (u8s xs).toArray 5 (0, 0))

theorem infoByte : (Tryd.prog.info? 5).map (fun i => (i.zero, i.size, i.bytes)) = some (some (.int .u8 0), 1, 1) := by kernel_rfl

/-! ### MapEntry.bytes8 -/
theorem bytes8_ok (a v : Int) (w : World) (h : okM a v) :
    Calls Tryd.prog 23 #[.agg #[.int .i64 a, .int .i64 v]] w fun e w' => Ret2 (fun x y => NewBytes w w' x (b8 a v) ∧ y = .bool true) e ∧ Below w.heap.size w w' := by
  obtain ⟨h0, h1, h2, h3⟩ := h
  have H : ((w.alloc (Obj.cells #[Value.int IntKind.i64 a, Value.int IntKind.i64 v] 23)).alloc
      (Obj.cells
        #[Value.int IntKind.u8 (a % 256), Value.int IntKind.u8 (a / 256), Value.int IntKind.u8 (a / 65536),
          Value.int IntKind.u8 (a / 16777216), Value.int IntKind.u8 (v % 256), Value.int IntKind.u8 (v / 256),
          Value.int IntKind.u8 0, Value.int IntKind.u8 0]
        5)).heap[w.heap.size+1]? = some (.cells (u8s (b8 a v)).toArray 5 (0, 0)) := by
    rw [blk_new (by simp)]
    have e1 : a / 65536 = 0 := by omega
    have e2 : a / 16777216 = 0 := by omega
    rw [e1, e2]; rfl
  go_enter Tryd.func23, Tryd.ntmps23
  go_wp2
  go_ret2
  refine ⟨⟨_, _, rfl, ⟨_, rfl, ?_, H⟩, rfl⟩, ?_⟩
  · omega
  · exact ((Below.refl _ _).alloc (Nat.le_refl _) _).alloc (by simp) _

theorem bytes8_bad (a v : Int) (w : World) (h : ¬ okM a v) :
    Calls Tryd.prog 23 #[.agg #[.int .i64 a, .int .i64 v]] w fun e w' => Ret2 (fun _ y => y = .bool false) e ∧ Below w.heap.size w w' := by
  have h' : a < 0 ∨ (0 ≤ a ∧ 4096 ≤ a) ∨ (0 ≤ a ∧ a < 4096 ∧ v < 0) ∨ (0 ≤ a ∧ a < 4096 ∧ 0 ≤ v ∧ decide (v < 65536) = false) := by
    unfold okM at h; rw [decide_eq_false_iff_not]; omega
  clear h
  rcases h' with h | ⟨h, h1⟩ | ⟨h, h1, h2⟩ | ⟨h, h1, h2, h3⟩
  all_goals
    go_enter Tryd.func23, Tryd.ntmps23
    go_wp2
    go_ret2
    refine ⟨⟨_, _, rfl, rfl⟩, ?_⟩
    exact ((Below.refl _ _).alloc (Nat.le_refl _) _).alloc (by simp) _

/-! ### entry.all at map entries -/
def AllPost (w : World) (L : List (Int × Int)) (e : Ending) (w' : World) : Prop :=
  (allOkM L → Ret2 (fun x y => w'.ownsRow w.heap.size 5 1 x (8 * L.length) (u8s (mapBytes L)) ∧ y = .int .i64 0) e) ∧
  (¬ allOkM L → e = .returned (.tuple #[.slice none 0 0, .int .i64 22])) ∧ Below w.heap.size w w'

theorem allM_any (L : List (Int × Int)) (b c : Nat) (w : World) (hL : L.length ≤ 1000) (hc : w.heap[b]? = some (.cells (flatM L).toArray 24 (0, 0))) :
    Calls Tryd.prog 22 #[.slice (some ⟨b, 0, none⟩) L.length c, .func (.func 23) #[] #[]] w (AllPost w L) := by
  obtain ⟨i0, hi, hz0, hz1, hz2⟩ := info_parts infoByte
  have hb := blk_lt hc
  have HC := Lib.hid hc; clear hc
  go_enter Tryd.func22, Tryd.ntmps22
  go_wp2_with fail
  go_loopw [6, 13] (fun v i wr => ∃ k : Nat, k ≤ L.length ∧ i = .int .i64 k ∧ allOkM (L.take k) ∧ wr.ownsRow w.heap.size 5 1 v (8 * k) (u8s (mapBytes (L.take k))) ∧ Below w.heap.size w wr)
    (fun _ i _ => L.length - (intOf i).toNat)
  case atStart => exact ⟨0, Nat.zero_le _, rfl, by simp [allOkM], World.ownsRow_nil _ _ _ _, Below.refl _ _⟩
  case round =>
    obtain ⟨k, hk, rfl, hok, hown, hnx⟩ := hrel
    by_cases hlt : k < L.length
    · have hb0 := blk_below hnx hb HC.out
      obtain ⟨g0, g1⟩ := flatM_get L k hlt
      have htk := take_snoc L (0, 0) k hlt
      have hmem := getD_mem L (0, 0) k hlt
      obtain ⟨p, hp⟩ : ∃ p, L.getD k (0, 0) = p := ⟨_, rfl⟩
      rw [hp] at g0 g1 htk hmem
      clear hp
      obtain ⟨a, v⟩ := p
      have d0 := cell_blk_some hb0 (i := k * 2) (by simpa using g0)
      have d1 := cell_blk_some hb0 (i := k * 2 + 1) (by simpa using g1)
      have HT := Lib.hid htk
      clear htk hb0 g0 g1
      by_cases hokk : okM a v
      · go_wp2_with fail
        refine (bytes8_ok a v _ hokk).mono ?_
        rintro e w1 ⟨⟨x, y, rfl, ⟨g, rfl, hg, hgb⟩, rfl⟩, hb1⟩
        have hbel : Below w.heap.size w w1 := below_call (below_alloc hnx (Nat.le_refl _) _) hb1 (Nat.le_refl _)
        have hown1 := own_call (hown.alloc (Obj.cells #[Value.int IntKind.i64 a, Value.int IntKind.i64 v] 23)) hb1
        clear hown hb1 d0 d1 hnx
        go_wp2_with (at_builtin; refine wpList_append_own _ rfl _ _ 26 rfl w.heap.size 5 i0 (.int .u8 0) 1 1 Tryd.underlying26 hi hz0 hz1 hz2 rfl (by decide) _ _ _ rfl hown1 ⟨g, 0, none⟩ 8 8 (u8s (b8 a v)) rfl rfl ?c1 (u8s_one _) ?c3 ?c4 ?c5 ?_)
        case c1 => exact row_cells hgb fun j u hu => by simpa using hu
        case c3 => unfold maxLen; omega
        case c4 => omega
        case c5 => exact hbel.size
        intro v' w2 hown2 hgr2 _
        have hbel2 := hbel.grown hgr2 hbel.size (fun k hk => (hown1.lt k hk).1)
        clear hown1 hgr2 hbel hgb
        go_wp2
        go_roundw
        case rel =>
          refine ⟨k + 1, by omega, by go_num, ?_, ?_, hbel2⟩
          · rw [HT.out]; intro p hp; rcases List.mem_append.1 hp with h | h
            · exact hok p h
            · simp at h; subst h; exact hokk
          · rw [HT.out, mapBytes_snoc, u8s_append]; simpa [Nat.mul_add] using hown2
        case measure => simp [intOf]; omega
      · go_wp2_with fail
        refine (bytes8_bad a v _ hokk).mono ?_
        rintro e w1 ⟨⟨x, y, rfl, rfl⟩, hb1⟩
        have hbel : Below w.heap.size w w1 := below_call (below_alloc hnx (Nat.le_refl _) _) hb1 (Nat.le_refl _)
        clear hown hb1 d0 d1 hnx
        go_wp2
        go_ret2
        exact ⟨fun h => absurd (h _ hmem) hokk, fun _ => rfl, hbel⟩
    · obtain rfl : k = L.length := by omega
      rw [List.take_length] at hok hown
      go_wp2
      go_ret2
      exact ⟨fun _ => ⟨_, _, rfl, hown, rfl⟩, fun h => absurd hok h, hnx⟩

/-! ### entry.MapBlock -/
theorem mapBlock_any (L : List (Int × Int)) (hL : L.length = 8) (w : World) :
    Calls Tryd.prog 10 #[.agg (flatM L).toArray] w (AllPost w L) := by
  obtain ⟨Y, hY⟩ : ∃ Y, Y = (flatM L).toArray := ⟨_, rfl⟩
  have hY' : Y.size = 16 := by rw [hY]; simp [flatM_length, hL]
  have hb : (w.alloc (.cells Y 24)).heap[w.heap.size]? = some (.cells (flatM L).toArray 24 (0, 0)) := by rw [hY]; exact blk_new rfl
  have hall := allM_any L w.heap.size 8 _ (by omega) hb
  rw [hL] at hall
  rw [← hY]
  clear hY hb
  have HA := Lib.hid hall; clear hall
  go_enter Tryd.func10, Tryd.ntmps10
  go_wp2_with fail
  refine HA.out.mono ?_
  rintro e w1 ⟨h1, h2, h3⟩
  have h3' : Below w.heap.size w w1 := below_call (below_alloc (Below.refl _ _) (Nat.le_refl _) _) h3 (Nat.le_refl _)
  clear HA h3
  by_cases hok : allOkM L
  · obtain ⟨x, y, rfl, hown, rfl⟩ := h1 hok
    clear h1 h2
    go_wp2
    go_ret2
    exact ⟨fun _ => ⟨_, _, rfl, own_mono hown (by simp), rfl⟩, fun h => absurd hok h, h3'⟩
  · obtain rfl := h2 hok
    clear h1 h2
    go_wp2
    go_ret2
    exact ⟨fun h => absurd h hok, fun _ => rfl, h3'⟩
end Go.Proofs.YtggfdhjckohmjaaDoor
