/- Walks of entry.all at directory entries, entry.DirBlock, marllaw07.refDir, marlref07.DirBlock: what each computes. -/
import Derived.Test.YtggfdhjckohmjaaDoorE7
namespace Go.Proofs.YtggfdhjckohmjaaDoor
open Go.RowKit

abbrev DE := Int × ByteArray
def allOkD (L : List DE) : Prop := ∀ p ∈ L, okD p.1 p.2.data.toList
instance (L : List DE) : Decidable (allOkD L) := by unfold allOkD; infer_instance
def dirBytes (L : List DE) : List Int := L.flatMap fun p => b16 p.1 p.2.data.toList
theorem dirBytes_snoc (L : List DE) (p : DE) : dirBytes (L ++ [p]) = dirBytes L ++ b16 p.1 p.2.data.toList := by simp [dirBytes]
theorem dirBytes_length (L : List DE) (h : allOkD L) : (dirBytes L).length = 16 * L.length := by
  induction L with
  | nil => rfl
  | cons p L ih =>
    have h1 := b16_length p.1 p.2.data.toList (okD_short (h p (List.mem_cons_self)))
    have := ih fun q hq => h q (List.mem_cons_of_mem _ hq)
    simp only [dirBytes, List.flatMap_cons, List.length_append, List.length_cons] at this ⊢; omega
def flatD (L : List DE) : List Value := L.flatMap fun p => [.int .i64 p.1, .string p.2]
theorem flatD_length (L : List DE) : (flatD L).length = 2 * L.length := by
  induction L with
  | nil => rfl
  | cons p L ih => simp only [flatD, List.flatMap_cons, List.length_append, List.length_cons, List.length_nil] at ih ⊢; omega
def nilDE : DE := (0, ByteArray.empty)
theorem flatD_get (L : List DE) (k : Nat) (h : k < L.length) : (flatD L)[k * 2]? = some (.int .i64 (L.getD k nilDE).1) ∧ (flatD L)[k * 2 + 1]? = some (.string (L.getD k nilDE).2) := by
  induction L generalizing k with
  | nil => simp at h
  | cons p L ih =>
    cases k with
    | zero => simp [flatD]
    | succ k =>
      have := ih k (by simpa using h)
      rw [show (k + 1) * 2 = k * 2 + 1 + 1 from by omega]
      simpa [flatD] using this
theorem flatD_one (L : List DE) : (flatD L).toArray.all (·.oneCell') = true := by
  refine all_oneCell_toArray fun v hv => ?_
  obtain ⟨p, _, hv⟩ := List.mem_flatMap.1 hv
  rcases List.mem_cons.1 hv with rfl | hv
  · rfl
  · obtain rfl := List.mem_singleton.1 hv; rfl
def shortD (L : List DE) : Prop := ∀ p ∈ L, p.2.size ≤ 1099511627776

def AllPostD (w : World) (L : List DE) (e : Ending) (w' : World) : Prop :=
  (allOkD L → Ret2 (fun x y => w'.ownsRow w.heap.size 5 1 x (16 * L.length) (u8s (dirBytes L)) ∧ y = .int .i64 0) e) ∧
  (¬ allOkD L → e = .returned (.tuple #[.slice none 0 0, .int .i64 22])) ∧ Below w.heap.size w w'

theorem allD_any (L : List DE) (b c : Nat) (w : World) (hL : L.length ≤ 1000) (hsh : shortD L) (hc : w.heap[b]? = some (.cells (flatD L).toArray 40 (0, 0))) :
    Calls Tryd.prog 24 #[.slice (some ⟨b, 0, none⟩) L.length c, .func (.func 25) #[] #[]] w (AllPostD w L) := by
  obtain ⟨i0, hi, hz0, hz1, hz2⟩ := info_parts infoByte
  have hb := blk_lt hc
  have HC := Lib.hid hc; clear hc
  go_enter Tryd.func24, Tryd.ntmps24
  go_wp2_with fail
  go_loopw [6, 13] (fun v i wr => ∃ k : Nat, k ≤ L.length ∧ i = .int .i64 k ∧ allOkD (L.take k) ∧ wr.ownsRow w.heap.size 5 1 v (16 * k) (u8s (dirBytes (L.take k))) ∧ Below w.heap.size w wr)
    (fun _ i _ => L.length - (intOf i).toNat)
  case atStart => exact ⟨0, Nat.zero_le _, rfl, by simp [allOkD], World.ownsRow_nil _ _ _ _, Below.refl _ _⟩
  case round =>
    obtain ⟨k, hk, rfl, hok, hown, hnx⟩ := hrel
    by_cases hlt : k < L.length
    · have hb0 := blk_below hnx hb HC.out
      obtain ⟨g0, g1⟩ := flatD_get L k hlt
      have htk := take_snoc L nilDE k hlt
      have hmem := getD_mem L nilDE k hlt
      obtain ⟨p, hp⟩ : ∃ p, L.getD k nilDE = p := ⟨_, rfl⟩
      rw [hp] at g0 g1 htk hmem
      clear hp
      obtain ⟨a, v⟩ := p
      have d0 := cell_blk_some hb0 (i := k * 2) (by simpa using g0)
      have d1 := cell_blk_some hb0 (i := k * 2 + 1) (by simpa using g1)
      have hsz := hsh _ hmem
      have HT := Lib.hid htk
      clear htk hb0 g0 g1
      simp only at hsz
      go_wp2_with fail
      refine (bytes16_any a v hsz _).mono ?_
      rintro e w1 ⟨⟨x, y, rfl, hx, rfl⟩, hb1⟩
      have hbel : Below w.heap.size w w1 := below_call (below_alloc hnx (Nat.le_refl _) _) hb1 (Nat.le_refl _)
      by_cases hokk : okD a v.data.toList
      · have hsh14 := okD_short hokk
        rw [b16g_ok hokk, show 2 + v.size + (14 - v.size) = 16 by rw [Lib.size_eq v]; omega] at hx
        rw [decide_eq_true hokk]
        obtain ⟨g, c', rfl, _, _, _⟩ := own_shape hx (by omega)
        have hcells := hx.cells (g := g) rfl
        have hown1 := own_call (hown.alloc (Obj.cells #[Value.int IntKind.i64 a, Value.string v] 39)) hb1
        have hlen16 : (u8s (b16 a v.data.toList)).length = 16 := by rw [u8s_length, b16_length _ _ hsh14]
        have HL16 := Lib.hid hlen16; clear hlen16
        clear hown hb1 d0 d1 hnx hx hsh14
        go_wp2_with (at_builtin; refine wpList_append_own _ rfl _ _ 26 rfl w.heap.size 5 i0 (.int .u8 0) 1 1 Tryd.underlying26 hi hz0 hz1 hz2 rfl (by decide) _ _ _ rfl hown1 ⟨g, 0, none⟩ 16 c' (u8s (b16 a v.data.toList)) rfl HL16.out hcells (u8s_one _) ?c3 ?c4 ?c5 ?_)
        case c3 => unfold maxLen; omega
        case c4 => omega
        case c5 => exact hbel.size
        intro v' w2 hown2 hgr2 _
        have hbel2 := hbel.grown hgr2 hbel.size (fun k hk => (hown1.lt k hk).1)
        clear hown1 hgr2 hbel hcells
        go_wp2
        go_roundw
        case rel =>
          refine ⟨k + 1, by omega, by go_num, ?_, ?_, hbel2⟩
          · rw [HT.out]; intro p hp; rcases List.mem_append.1 hp with h | h
            · exact hok p h
            · simp at h; subst h; exact hokk
          · rw [HT.out, dirBytes_snoc, u8s_append]; simpa [Nat.mul_add] using hown2
        case measure => simp [intOf]; omega
      · rw [decide_eq_false hokk]
        have HN := Lib.hid hokk
        clear hown hb1 d0 d1 hnx hx hokk
        go_wp2
        go_ret2
        exact ⟨fun h => absurd (h _ hmem) HN.out, fun _ => rfl, hbel⟩
    · obtain rfl : k = L.length := by omega
      rw [List.take_length] at hok hown
      go_wp2
      go_ret2
      exact ⟨fun _ => ⟨_, _, rfl, hown, rfl⟩, fun h => absurd hok h, hnx⟩

/-! ### entry.DirBlock -/
theorem dirBlock_any (L : List DE) (hL : L.length = 4) (hsh : shortD L) (w : World) :
    Calls Tryd.prog 14 #[.agg (flatD L).toArray] w (AllPostD w L) := by
  obtain ⟨Y, hY⟩ : ∃ Y, Y = (flatD L).toArray := ⟨_, rfl⟩
  have hY' : Y.size = 8 := by rw [hY]; simp [flatD_length, hL]
  have hb : (w.alloc (.cells Y 40)).heap[w.heap.size]? = some (.cells (flatD L).toArray 40 (0, 0)) := by rw [hY]; exact blk_new rfl
  have hall := allD_any L w.heap.size 4 _ (by omega) hsh hb
  rw [hL] at hall
  rw [← hY]
  clear hY hb
  have HA := Lib.hid hall; clear hall
  go_enter Tryd.func14, Tryd.ntmps14
  go_wp2_with fail
  refine HA.out.mono ?_
  rintro e w1 ⟨h1, h2, h3⟩
  have h3' : Below w.heap.size w w1 := below_call (below_alloc (Below.refl _ _) (Nat.le_refl _) _) h3 (Nat.le_refl _)
  clear HA h3
  by_cases hok : allOkD L
  · obtain ⟨x, y, rfl, hown, rfl⟩ := h1 hok
    clear h1 h2
    go_wp2
    go_ret2
    exact ⟨fun _ => ⟨_, _, rfl, own_mono hown (by simp), rfl⟩, fun h => absurd hok h, h3'⟩
  · obtain rfl := h2 hok
    clear h1 h2
    go_wp2
    go_ret2
    exact ⟨fun h => absurd h hok, fun _ => rfl, h3'⟩
end Go.Proofs.YtggfdhjckohmjaaDoor
