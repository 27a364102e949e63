/- Walks of the directory entries' functions (entry.DirBlock and what it calls): what each computes. -/
import Derived.Test.YtggfdhjckohmjaaDoorE6
import Derived.Test.YtggfdhjckohmjaaDoorE3
import Derived.Test.YtggfdhjckohmjaaDoorZeros
namespace Go.Proofs.YtggfdhjckohmjaaDoor
open Go.RowKit

def okD (ino : Int) (l : List UInt8) : Prop := (ino = 0 ∧ l = []) ∨ (1 ≤ ino ∧ ino ≤ 200 ∧ nameE l = 0)
instance (ino : Int) (l : List UInt8) : Decidable (okD ino l) := by unfold okD; infer_instance
def nums (l : List UInt8) : List Int := l.map fun b => (b.toNat : Int)
def b16 (ino : Int) (l : List UInt8) : List Int := [ino, 0] ++ nums l ++ List.replicate (14 - l.length) 0
theorem nameE_short {l : List UInt8} (h : nameE l = 0) : l.length ≤ 14 := by
  unfold nameE at h
  split at h
  · cases h
  · omega
theorem okD_short {ino : Int} {l : List UInt8} (h : okD ino l) : l.length ≤ 14 := by
  rcases h with ⟨_, rfl⟩ | ⟨_, _, h⟩
  · simp
  · exact nameE_short h
theorem b16_length (ino : Int) (l : List UInt8) (h : l.length ≤ 14) : (b16 ino l).length = 16 := by simp [b16, nums]; omega
theorem strCells_nums (s : ByteArray) : Lib.strCells s = u8s (nums s.data.toList) := by simp [Lib.strCells, u8s, nums]

def b16g (ino : Int) (l : List UInt8) : List Int := [ino % 256, ino / 256 % 256] ++ nums l ++ List.replicate (14 - l.length) 0
theorem b16g_ok {ino : Int} {l : List UInt8} (h : okD ino l) : b16g ino l = b16 ino l := by
  have h2 : ino % 256 = ino ∧ ino / 256 % 256 = 0 := by rcases h with ⟨rfl, _⟩ | ⟨h0, h1, _⟩ <;> omega
  unfold b16g b16; rw [h2.1, h2.2]
theorem own_shape {w : World} {B n sz : Nat} {e : TypeId} {v : Value} {xs : List Value} (h : w.ownsRow B e sz v n xs) (hn : 0 < n) :
    ∃ g cap, v = .slice (some ⟨g, 0, none⟩) n cap ∧ B ≤ g ∧ g < w.heap.size ∧ n ≤ cap := by
  rcases h.2 with ⟨_, h0⟩ | ⟨g, cap, cur, rfl, hb, hg, hc, _⟩
  · omega
  · exact ⟨g, cap, rfl, hb, blk_lt hg, hc⟩

theorem own2 (w W : World) (g : Nat) (x y : Int) (hg : g = W.heap.size) (h : w.heap.size ≤ g) :
    (W.alloc (Obj.cells #[Value.int IntKind.u8 x, Value.int IntKind.u8 y] 5)).ownsRow w.heap.size 5 1 (.slice (some ⟨g, 0, none⟩) 2 2) 2 [Value.int IntKind.u8 x, Value.int IntKind.u8 y] :=
  ⟨rfl, .inr ⟨g, 2, _, rfl, h, blk_new hg, Nat.le_refl _, by decide, rfl, rfl⟩⟩
theorem fin16 (w W : World) (g : Nat) (ino : Int) (s : ByteArray) (x y : Int) (v1 v2 : Value) (w1 w2 : World) (hW : Below w.heap.size w W) (hg : w.heap.size ≤ g) (hx : x = ino % 256) (hy : y = ino / 256 % 256)
    (ho1 : w1.ownsRow w.heap.size 5 1 v1 (2 + s.size) ([Value.int IntKind.u8 x, Value.int IntKind.u8 y] ++ Lib.strCells s))
    (hg1 : (W.alloc (Obj.cells #[Value.int IntKind.u8 x, Value.int IntKind.u8 y] 5)).grownBy w1 (some g))
    (ho2 : w2.ownsRow w.heap.size 5 1 v2 (2 + s.size + (14 - s.size)) (([Value.int IntKind.u8 x, Value.int IntKind.u8 y] ++ Lib.strCells s) ++ List.replicate (14 - s.size) (.int .u8 0))) (hg2 : w1.grownBy w2 v1.ownBlock) :
    w2.ownsRow w.heap.size 5 1 v2 (2 + s.size + (14 - s.size)) (u8s (b16g ino s.data.toList)) ∧ Below w.heap.size w w2 := by
  subst hx hy
  have hb1 := (below_alloc hW (Nat.le_refl _) (Obj.cells #[Value.int IntKind.u8 (ino % 256), Value.int IntKind.u8 (ino / 256 % 256)] 5)).grown hg1 (by have := hW.size; simp; omega) (fun k hk => by cases hk; omega)
  refine ⟨?_, hb1.grown hg2 hb1.size (fun k hk => (ho1.lt k hk).1)⟩
  have : u8s (b16g ino s.data.toList) = ([Value.int IntKind.u8 (ino % 256), Value.int IntKind.u8 (ino / 256 % 256)] ++ Lib.strCells s) ++ List.replicate (14 - s.size) (.int .u8 0) := by
    rw [strCells_nums, Lib.size_eq s]; simp [b16g, u8s, nums]
  rw [this]; exact ho2

theorem bytes16_any (ino : Int) (s : ByteArray) (hs : s.size ≤ 1099511627776) (w : World) :
    Calls Tryd.prog 25 #[.agg #[.int .i64 ino, .string s]] w fun e w' => Ret2 (fun x y => w'.ownsRow w.heap.size 5 1 x (2 + s.size + (14 - s.size)) (u8s (b16g ino s.data.toList)) ∧ y = .bool (decide (okD ino s.data.toList))) e ∧ Below w.heap.size w w' := by
  have hl := Lib.size_eq s
  have ht := ByteArray.toList_eq s
  obtain ⟨i0, hi, hz0, hz1, hz2⟩ := info_parts infoByte
  obtain ⟨r, hr⟩ : ∃ r, r = u8s (b16g ino s.data.toList) := ⟨_, rfl⟩
  obtain ⟨q, hq⟩ : ∃ q, q = decide (okD ino s.data.toList) := ⟨_, rfl⟩
  rw [← hr, ← hq]
  have HR := Lib.hid hr; clear hr
  clear hl
  have hN := entryName_any s (by omega) (w.alloc (Obj.cells #[Value.int IntKind.i64 ino, Value.string s] 39))
  by_cases h0 : ino = 0
  · subst h0
    cases e1 : s.toList.isEmpty
    · have hqf : q = false := by
        rw [hq, ← ht]; refine dec_false ?_
        rintro (⟨_, h⟩ | ⟨h, _⟩)
        · rw [h] at e1; cases e1
        · omega
      subst hqf
      clear hN ht hq
      go_enter Tryd.func25, Tryd.ntmps25
      go_wp2_with (first
        | (at_builtin; refine Lib.wpList_append_own_string _ rfl _ _ 26 9 rfl w.heap.size 5 i0 Tryd.underlying26 Tryd.underlying9 hi hz0 hz1 hz2 _ 2 _ rfl (own2 w _ _ _ _ (by simp) (by first | omega | (simp; omega))) s rfl (by unfold maxLen; omega) (by omega) (by first | omega | (simp; omega)) ?_; intro v1 w1 hown1 hgr1 _; obtain ⟨g1, c1, rfl, hg1, _, _⟩ := own_shape hown1 (by omega); have hsz1 := hgr1.size; simp only [World.size_alloc] at hsz1)
        | (at_builtin; refine wpList_append_own_zeros _ rfl _ _ 26 3 rfl w.heap.size 5 i0 (.int .u8 0) 1 .i64 .i64 Tryd.underlying26 Tryd.underlying3 hi hz0 rfl rfl hz1 hz2 _ _ _ rfl hown1 (14 - s.size) _ rfl (by omega) (by unfold maxLen; omega) (by omega) (by omega) (by omega) ?_; intro v2 w2 hown2 hgr2))
      go_ret2
      obtain ⟨f1, f2⟩ := fin16 w _ _ 0 s _ _ _ _ _ _ ((Below.refl _ _).alloc (Nat.le_refl _) _) (by show _ ≤ w.heap.size + 1; omega) rfl rfl hown1 hgr1 hown2 hgr2
      rw [← HR.out] at f1
      exact ⟨⟨_, _, rfl, f1, rfl⟩, f2⟩
    · have hqf : q = true := by
        rw [hq, ← ht]; refine dec_true (.inl ⟨rfl, by simpa using e1⟩)
      subst hqf
      clear hN ht hq
      go_enter Tryd.func25, Tryd.ntmps25
      go_wp2_with (first
        | (at_builtin; refine Lib.wpList_append_own_string _ rfl _ _ 26 9 rfl w.heap.size 5 i0 Tryd.underlying26 Tryd.underlying9 hi hz0 hz1 hz2 _ 2 _ rfl (own2 w _ _ _ _ (by simp) (by first | omega | (simp; omega))) s rfl (by unfold maxLen; omega) (by omega) (by first | omega | (simp; omega)) ?_; intro v1 w1 hown1 hgr1 _; obtain ⟨g1, c1, rfl, hg1, _, _⟩ := own_shape hown1 (by omega); have hsz1 := hgr1.size; simp only [World.size_alloc] at hsz1)
        | (at_builtin; refine wpList_append_own_zeros _ rfl _ _ 26 3 rfl w.heap.size 5 i0 (.int .u8 0) 1 .i64 .i64 Tryd.underlying26 Tryd.underlying3 hi hz0 rfl rfl hz1 hz2 _ _ _ rfl hown1 (14 - s.size) _ rfl (by omega) (by unfold maxLen; omega) (by omega) (by omega) (by omega) ?_; intro v2 w2 hown2 hgr2))
      go_ret2
      obtain ⟨f1, f2⟩ := fin16 w _ _ 0 s _ _ _ _ _ _ ((Below.refl _ _).alloc (Nat.le_refl _) _) (by show _ ≤ w.heap.size + 1; omega) (by omega) (by omega) hown1 hgr1 hown2 hgr2; rw [← HR.out] at f1
      exact ⟨⟨_, _, rfl, f1, rfl⟩, f2⟩
  · have zb : (ino == 0) = false := beq_eq_false_iff_ne.2 h0
    by_cases h1 : 1 ≤ ino
    · have q1 : decide (1 ≤ ino) = true := dec_true h1
      by_cases h200 : ino ≤ 200
      · have q2 : decide (ino ≤ 200) = true := dec_true h200
        cases hn : (nameE s.data.toList == 0)
        · have hqf : q = false := by
            rw [hq]; refine dec_false ?_
            rintro (⟨h, _⟩ | ⟨_, _, h⟩)
            · omega
            · rw [h] at hn; cases hn
          subst hqf
          clear ht hq
          have HN := Lib.hid hN; clear hN
          go_enter Tryd.func25, Tryd.ntmps25
          go_wp2_with fail
          refine HN.out.mono ?_
          rintro e w3 ⟨rfl, hb3⟩
          have hsz3 := hb3.size
          simp only [World.size_alloc] at hsz3
          have hlt3 : w.heap.size < w3.heap.size := by omega
          have hb3' := below_call (below_alloc (Below.refl _ w) (Nat.le_refl _) _) hb3 (Nat.le_refl _)
          have k0 := blk_below hb3 (blk_lt (blk_new rfl)) (blk_new rfl)
          have d0 := cell_blk_some k0 (i := 0) (v := .int .i64 ino) rfl
          have d1 := cell_blk_some k0 (i := 1) (v := .string s) rfl
          have HB := Lib.hid hb3'
          clear HN k0 hb3 hb3'
          go_wp2_with (first
            | (at_builtin; refine Lib.wpList_append_own_string _ rfl _ _ 26 9 rfl w.heap.size 5 i0 Tryd.underlying26 Tryd.underlying9 hi hz0 hz1 hz2 _ 2 _ rfl (own2 w _ _ _ _ (by simp) (by first | omega | (simp; omega))) s rfl (by unfold maxLen; omega) (by omega) (by first | omega | (simp; omega)) ?_; intro v1 w1 hown1 hgr1 _; obtain ⟨g1, c1, rfl, hg1, _, _⟩ := own_shape hown1 (by omega); have hsz1 := hgr1.size; simp only [World.size_alloc] at hsz1)
            | (at_builtin; refine wpList_append_own_zeros _ rfl _ _ 26 3 rfl w.heap.size 5 i0 (.int .u8 0) 1 .i64 .i64 Tryd.underlying26 Tryd.underlying3 hi hz0 rfl rfl hz1 hz2 _ _ _ rfl hown1 (14 - s.size) _ rfl (by omega) (by unfold maxLen; omega) (by omega) (by omega) (by omega) ?_; intro v2 w2 hown2 hgr2))
          go_ret2
          obtain ⟨f1, f2⟩ := fin16 w _ _ ino s _ _ _ _ _ _ HB.out (by show _ ≤ w3.heap.size; omega) (by omega) (by omega) hown1 hgr1 hown2 hgr2
          rw [← HR.out] at f1
          exact ⟨⟨_, _, rfl, f1, rfl⟩, f2⟩
        · have hqf : q = true := by
            rw [hq]; exact dec_true (.inr ⟨h1, h200, eq_of_beq hn⟩)
          subst hqf
          clear ht hq
          have HN := Lib.hid hN; clear hN
          go_enter Tryd.func25, Tryd.ntmps25
          go_wp2_with fail
          refine HN.out.mono ?_
          rintro e w3 ⟨rfl, hb3⟩
          have hsz3 := hb3.size
          simp only [World.size_alloc] at hsz3
          have hlt3 : w.heap.size < w3.heap.size := by omega
          have hb3' := below_call (below_alloc (Below.refl _ w) (Nat.le_refl _) _) hb3 (Nat.le_refl _)
          have k0 := blk_below hb3 (blk_lt (blk_new rfl)) (blk_new rfl)
          have d0 := cell_blk_some k0 (i := 0) (v := .int .i64 ino) rfl
          have d1 := cell_blk_some k0 (i := 1) (v := .string s) rfl
          have HB := Lib.hid hb3'
          clear HN k0 hb3 hb3'
          go_wp2_with (first
            | (at_builtin; refine Lib.wpList_append_own_string _ rfl _ _ 26 9 rfl w.heap.size 5 i0 Tryd.underlying26 Tryd.underlying9 hi hz0 hz1 hz2 _ 2 _ rfl (own2 w _ _ _ _ (by simp) (by first | omega | (simp; omega))) s rfl (by unfold maxLen; omega) (by omega) (by first | omega | (simp; omega)) ?_; intro v1 w1 hown1 hgr1 _; obtain ⟨g1, c1, rfl, hg1, _, _⟩ := own_shape hown1 (by omega); have hsz1 := hgr1.size; simp only [World.size_alloc] at hsz1)
            | (at_builtin; refine wpList_append_own_zeros _ rfl _ _ 26 3 rfl w.heap.size 5 i0 (.int .u8 0) 1 .i64 .i64 Tryd.underlying26 Tryd.underlying3 hi hz0 rfl rfl hz1 hz2 _ _ _ rfl hown1 (14 - s.size) _ rfl (by omega) (by unfold maxLen; omega) (by omega) (by omega) (by omega) ?_; intro v2 w2 hown2 hgr2))
          go_ret2
          obtain ⟨f1, f2⟩ := fin16 w _ _ ino s _ _ _ _ _ _ HB.out (by show _ ≤ w3.heap.size; omega) (by omega) (by omega) hown1 hgr1 hown2 hgr2
          rw [← HR.out] at f1
          exact ⟨⟨_, _, rfl, f1, rfl⟩, f2⟩
      · have q2 : decide (ino ≤ 200) = false := dec_false h200
        have hqf : q = false := by
          rw [hq]; refine dec_false ?_
          rintro (⟨h, _⟩ | ⟨_, h, _⟩)
          · omega
          · omega
        subst hqf
        clear hN ht hq
        go_enter Tryd.func25, Tryd.ntmps25
        go_wp2_with (first
          | (at_builtin; refine Lib.wpList_append_own_string _ rfl _ _ 26 9 rfl w.heap.size 5 i0 Tryd.underlying26 Tryd.underlying9 hi hz0 hz1 hz2 _ 2 _ rfl (own2 w _ _ _ _ (by simp) (by first | omega | (simp; omega))) s rfl (by unfold maxLen; omega) (by omega) (by first | omega | (simp; omega)) ?_; intro v1 w1 hown1 hgr1 _; obtain ⟨g1, c1, rfl, hg1, _, _⟩ := own_shape hown1 (by omega); have hsz1 := hgr1.size; simp only [World.size_alloc] at hsz1)
          | (at_builtin; refine wpList_append_own_zeros _ rfl _ _ 26 3 rfl w.heap.size 5 i0 (.int .u8 0) 1 .i64 .i64 Tryd.underlying26 Tryd.underlying3 hi hz0 rfl rfl hz1 hz2 _ _ _ rfl hown1 (14 - s.size) _ rfl (by omega) (by unfold maxLen; omega) (by omega) (by omega) (by omega) ?_; intro v2 w2 hown2 hgr2))
        go_ret2
        obtain ⟨f1, f2⟩ := fin16 w _ _ ino s _ _ _ _ _ _ ((Below.refl _ _).alloc (Nat.le_refl _) _) (by show _ ≤ w.heap.size + 1; omega) (by omega) (by omega) hown1 hgr1 hown2 hgr2; rw [← HR.out] at f1
        exact ⟨⟨_, _, rfl, f1, rfl⟩, f2⟩
    · have q1 : decide (1 ≤ ino) = false := dec_false h1
      have hqf : q = false := by
        rw [hq]; refine dec_false ?_
        rintro (⟨h, _⟩ | ⟨h, _⟩)
        · omega
        · omega
      subst hqf
      clear hN ht hq
      go_enter Tryd.func25, Tryd.ntmps25
      go_wp2_with (first
        | (at_builtin; refine Lib.wpList_append_own_string _ rfl _ _ 26 9 rfl w.heap.size 5 i0 Tryd.underlying26 Tryd.underlying9 hi hz0 hz1 hz2 _ 2 _ rfl (own2 w _ _ _ _ (by simp) (by first | omega | (simp; omega))) s rfl (by unfold maxLen; omega) (by omega) (by first | omega | (simp; omega)) ?_; intro v1 w1 hown1 hgr1 _; obtain ⟨g1, c1, rfl, hg1, _, _⟩ := own_shape hown1 (by omega); have hsz1 := hgr1.size; simp only [World.size_alloc] at hsz1)
        | (at_builtin; refine wpList_append_own_zeros _ rfl _ _ 26 3 rfl w.heap.size 5 i0 (.int .u8 0) 1 .i64 .i64 Tryd.underlying26 Tryd.underlying3 hi hz0 rfl rfl hz1 hz2 _ _ _ rfl hown1 (14 - s.size) _ rfl (by omega) (by unfold maxLen; omega) (by omega) (by omega) (by omega) ?_; intro v2 w2 hown2 hgr2))
      go_ret2
      obtain ⟨f1, f2⟩ := fin16 w _ _ ino s _ _ _ _ _ _ ((Below.refl _ _).alloc (Nat.le_refl _) _) (by show _ ≤ w.heap.size + 1; omega) (by omega) (by omega) hown1 hgr1 hown2 hgr2; rw [← HR.out] at f1
      exact ⟨⟨_, _, rfl, f1, rfl⟩, f2⟩
end Go.Proofs.YtggfdhjckohmjaaDoor
