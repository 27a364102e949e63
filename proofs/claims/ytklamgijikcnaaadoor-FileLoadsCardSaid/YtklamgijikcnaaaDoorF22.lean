/- The law's calls of a map of its own; walk of the law's awake. -/
import Derived.Test.YtklamgijikcnaaaDoorF21
namespace Go.Proofs.YtklamgijikcnaaaDoor
open Go.RowKit

section
variable {W w : World} {fb : Nat} {d : Int → Int} {m : MM} {F : Nat → Prop}
theorem onew_any {w : World} (S : SpanAt w) :
    Calls Tryd.prog 9 #[] w fun e w' => e = .returned (.pointer (some ⟨w.heap.size + 2, 0, none⟩)) ∧ ∃ F, One w w' (w.heap.size + 2) (fun _ => 0) (fun _ => none) F := by
  have hs := S.lt
  refine (fnew_any S).mono ?_
  rintro e w' ⟨rfl, h, hb⟩
  exact ⟨rfl, _, One.mk' h Inv.empty (fun x hx => hx.1) hb hs⟩
def OSet (W w : World) (fb : Nat) (F : Nat → Prop) (d : Int → Int) (m : MM) (l : List Int) (e : Ending) (w' : World) : Prop :=
  ∃ v F', e = .returned (.tuple #[v, .int .i64 0]) ∧ OwnI w' w.heap.size v l ∧ One W w' fb d m F' ∧ Aft w w' F F'
theorem oset_data (T : One W w fb d m F) {n a : Int} (hn : 0 ≤ n ∧ n < 600) (ha : 0 ≤ a ∧ a < 4096) :
    Calls Tryd.prog 11 #[.pointer (some ⟨fb, 0, none⟩), .int .i64 n, .int .i64 a] w (OSet W w fb F (setS d m n a).1 (setS d m n a).2.1 (setS d m n a).2.2) := by
  refine (set_data T.f T.inv hn ha).mono ?_
  rintro e w' ⟨v, F', rfl, h1, h2, h3⟩
  exact ⟨v, _, rfl, h1, T.step h2 (setS_ok T.inv hn).2.1.inv h3, h3.tight⟩
theorem Inv.setM (h : Inv d m) {n a b u : Int} (hm : m n = some (b, u)) : Inv d (updM m n (some (a, u))) := by
  have hi : ∀ k, (updM m n (some (a, u)) k).isSome = (m k).isSome := fun k => by
    by_cases e : k = n
    · rw [e, updM_self, hm]; rfl
    · rw [updM_other e]
  have hb : hasB d (updM m n (some (a, u))) = hasB d m := by funext c; unfold hasB; rw [hi]
  refine ⟨h.d0, ⟨fun k hk => by rw [hb, hi]; exact h.j.has k hk, fun k v hk => h.metas (by rw [← hi, hk]; rfl), fun k x y hk => ?_, fun k hk hn => ?_⟩⟩
  · rw [hb]
    by_cases e : k = n
    · subst e
      rw [updM_self] at hk
      obtain ⟨rfl, rfl⟩ := Prod.mk.inj (Option.some.inj hk)
      exact h.j.cnt k b u hm
    · rw [updM_other e] at hk
      exact h.j.cnt k x y hk
  · rw [hb]
    refine h.j.no k hk ?_
    have := hi k
    rw [hn] at this
    cases hq : m k with
    | none => rfl
    | some v => rw [hq] at this; cases this
theorem oset_meta (T : One W w fb d m F) {n a b u : Int} (hm : m n = some (b, u)) (ha : 0 ≤ a ∧ a < 4096) :
    Calls Tryd.prog 11 #[.pointer (some ⟨fb, 0, none⟩), .int .i64 n, .int .i64 a] w (OSet W w fb F d (updM m n (some (a, u))) (metaGone b a)) := by
  refine (set_meta T.f T.inv hm ha).mono ?_
  rintro e w' ⟨v, F', rfl, h1, h2, h3⟩
  exact ⟨v, _, rfl, h1, T.step h2 (T.inv.setM hm) h3, h3.tight⟩
def OCut (W w : World) (fb : Nat) (F : Nat → Prop) (d : Int → Int) (m : MM) (from_ : Int) (e : Ending) (w' : World) : Prop :=
  ∃ v F' d' m', e = .returned (.tuple #[v, .int .i64 0]) ∧ (∀ x, d' x = if from_ ≤ x then 0 else d x) ∧ Sub m m' ∧ Less (adr d m) (adr d' m') ∧ OwnI w' w.heap.size v (sortI (goneL (adr d m) (adr d' m'))) ∧ One W w' fb d' m' F' ∧ Aft w w' F F'
theorem ocut_any (T : One W w fb d m F) {from_ : Int} (hf : 0 ≤ from_ ∧ from_ ≤ 600) :
    Calls Tryd.prog 13 #[.pointer (some ⟨fb, 0, none⟩), .int .i64 from_] w (OCut W w fb F d m from_) := by
  refine (cut_any T.f T.inv hf).mono ?_
  rintro e w' ⟨v, F', d', m', rfl, h1, h2, h3, h4, h5, h6, h7⟩
  exact ⟨v, _, d', m', rfl, h2, h3, h4, h5, T.step h6 h1 h7, h7.tight⟩
end

/-- The example's state, behind its three calls of Set. -/
def exM : MM := updM (updM (needM 4 (fun _ => none) 22) (-22) (some (60, 1))) (-23) (some (61, 1))
def exD : Int → Int := setD (fun _ => 0) 22 50
theorem ex0 : needM 4 (fun _ => none) 22 (-22) = some (0, 1) ∧ updM (needM 4 (fun _ => none) 22) (-22) (some (60, 1)) (-23) = some (0, 1) ∧ metasOf (needM 4 (fun _ => none) 22) = [-23, -22] := by decide +kernel
theorem ex1 : adr exD exM (-23) = 61 := by decide +kernel
theorem ex5 : rootW exD exM = [.int .u32 0, .int .u32 0, .int .u32 0, .int .u32 0, .int .u32 0, .int .u32 0, .int .u32 0, .int .u32 61, .int .u32 0] := by kernel_rfl
theorem ex2 : goneL (adr exD exM) (fun _ => 0) = [50, 61, 60] := by decide +kernel
theorem ex3 : setS (fun _ => 0) (fun _ => none) 22 50 = (exD, needM 4 (fun _ => none) 22, []) := by
  unfold setS
  rw [if_neg (by decide), if_neg (by decide), if_pos rfl]; rfl
theorem ex4 : sortI [50, 61, 60] = [50, 60, 61] := sortI_eq (by decide) (by decide)
set_option maxHeartbeats 4000000 in
set_option maxRecDepth 100000 in
theorem awake_any {w : World} (S : SpanAt w) : Calls Tryd.prog 10 #[] w fun e w' => e = .returned (.bool true) ∧ Below w.heap.size w w' := by
  have HN := Lib.hid (onew_any S)
  clear S
  obtain ⟨x0, x1, x2⟩ := ex0
  have E0 := Lib.hid x0; have E1 := Lib.hid x1; have E2 := Lib.hid x2
  clear x0 x1 x2
  go_enter Tryd.func10, Tryd.ntmps10
  go_wp2_with fail
  refine HN.out.mono ?_
  rintro e w1 ⟨rfl, F1, T1⟩
  generalize w.heap.size + 2 = fb at T1 ⊢
  have H1 := Lib.hid (oset_data T1 (n := 22) (a := 50) (by decide) (by decide))
  rw [ex3] at H1
  dsimp only at H1
  clear T1
  go_wp2_with fail
  refine H1.out.mono ?_
  rintro e w2 ⟨v2, F2, rfl, ho2, T2, ha2⟩
  have HM := Lib.hid (metas_any T2.f)
  rw [E2.out] at HM
  have T2' := Lib.hid T2
  clear ho2 T2 ha2 H1
  go_wp2_with fail
  refine HM.out.mono ?_
  rintro e w3 ⟨v3, rfl, hr3, hb3⟩
  have T3 := T2'.out.below hb3
  have hr3 := hr3.mono T2'.out.bel.size
  have H3 := Lib.hid (oset_meta T3 (n := -22) (a := 60) E0.out (by decide))
  have R3 := Lib.hid hr3; have T3' := Lib.hid T3
  clear hr3 hb3 T3 HM T2'
  go_wp2_with fail
  refine H3.out.mono ?_
  rintro e w4 ⟨v4, F4, rfl, ho4, T4, ha4⟩
  have hr4 : RowI w4 w.heap.size v3 [-23, -22] := T3'.out.row ha4 R3.out
  have H4 := Lib.hid (oset_meta T4 (n := -23) (a := 61) E1.out (by decide))
  have R4 := Lib.hid hr4; have T4' := Lib.hid T4
  clear hr4 ho4 T4 ha4 H3 T3' R3
  go_wp2_with fail
  refine H4.out.mono ?_
  rintro e w5 ⟨v5, F5, rfl, ho5, T5, ha5⟩
  have hr5 : RowI w5 w.heap.size v3 [-23, -22] := T4'.out.row ha5 R4.out
  have h5 := root_any T5.f T5.inv
  change Calls _ _ _ _ (fun e w' => e = .returned (.agg (rootW exD exM).toArray) ∧ _) at h5
  rw [ex5] at h5
  have H5 := Lib.hid h5
  clear h5
  have R5 := Lib.hid hr5; have T5' := Lib.hid T5
  clear hr5 ho5 T5 ha5 H4 R4
  go_wp2_with fail
  refine H5.out.mono ?_
  rintro e w6 ⟨rfl, hb6⟩
  have T6 := T5'.out.below hb6
  have hr6 := R5.out.below hb6
  have H6 := Lib.hid (fun o => ocut_any (T6.alloc o) (from_ := 0) (by decide))
  have R6 := Lib.hid hr6; have T6' := Lib.hid T6
  clear hr6 T6 hb6 H5 T5' R5
  go_wp2_with fail
  refine (H6.out _).mono ?_
  rintro e w7 ⟨v7, F7, d', m', rfl, hd, _, _, ho7, T7, ha7⟩
  have hr7 : RowI w7 w.heap.size v3 [-23, -22] := (T6'.out.alloc _).row ha7 (R6.out.below ((Below.refl _ w6).alloc (Nat.le_refl _) _))
  have hd0 : ∀ x, d' x = 0 := fun x => by
    rw [hd x]
    split
    · rfl
    · have : exD x = 0 := T6'.out.inv.neg (by omega)
      exact this
  have hz : adr d' m' = fun _ => 0 := by
    funext c
    unfold adr adrM
    rw [hd0 c, T7.inv.none_of hd0 c]
    split <;> rfl
  rw [hz] at ho7
  change OwnI w7 _ v7 (sortI (goneL (adr exD exM) fun _ => 0)) at ho7
  rw [ex2, ex4] at ho7
  have hb7 : (w6.alloc (.cells #[.int .u32 0, .int .u32 0, .int .u32 0, .int .u32 0, .int .u32 0, .int .u32 0, .int .u32 0, .int .u32 61, .int .u32 0] 55)).heap[w6.heap.size]? = some (.cells #[.int .u32 0, .int .u32 0, .int .u32 0, .int .u32 0, .int .u32 0, .int .u32 0, .int .u32 0, .int .u32 61, .int .u32 0] 55 (0, 0)) := blk_new rfl
  have hb8 := (ha7.fr.block w6.heap.size (by simp) (fun hx => by have := T6'.out.f.lt _ hx; omega)).trans hb7
  have c7 := cell_blk_some hb8 (i := 7) rfl
  have BK7 := Lib.hid hb8
  have B7 := Lib.hid T7.bel; have R7 := Lib.hid hr7; have O7 := Lib.hid ho7.row
  obtain ⟨xa, xb, rfl⟩ := hr7.shape
  obtain ⟨ya, yb, rfl⟩ := ho7.shape
  clear hd hd0 hz ho7 T7 ha7 hr7 hb7 hb8 H6 T6' R6 E0 E1 E2
  go_wp2_with fail
  refine (ints_any (R7.out.below ((Below.refl _ w7).alloc (Nat.le_refl _) _)) (RowI.lit #[.int .i64 (-23), .int .i64 (-22)] [-23, -22] rfl) (by decide) (by decide)).mono ?_
  rintro e w8 ⟨rfl, n8, hw8⟩
  have hb8 : Below w7.heap.size w7 w8 := by rw [hw8]; exact below_drewN ((Below.refl _ w7).alloc (Nat.le_refl _) _) _
  have O8 := Lib.hid (O7.out.below hb8); have B8 := Lib.hid (below_call B7.out hb8 (Nat.le_refl _))
  have c8 := cell_blk_some ((hb8.block _ (blk_lt BK7.out)).trans BK7.out) (i := 7) rfl
  clear hw8 hb8 c7 B7 O7 R7 BK7
  go_wp2_with fail
  refine (ints_any (O8.out.below ((Below.refl _ w8).alloc (Nat.le_refl _) _)) (RowI.lit #[.int .i64 50, .int .i64 60, .int .i64 61] [50, 60, 61] rfl) (by decide) (by decide)).mono ?_
  rintro e w9 ⟨rfl, n9, hw9⟩
  have hb9 : Below w8.heap.size w8 w9 := by rw [hw9]; exact below_drewN ((Below.refl _ w8).alloc (Nat.le_refl _) _) _
  have B9 := Lib.hid (below_call B8.out hb9 (Nat.le_refl _))
  clear hw9 hb9 c8
  go_wp2_with fail
  go_ret
  exact ⟨rfl, B9.out⟩
end Go.Proofs.YtklamgijikcnaaaDoor
