/- Walk of the statement EntryPlaces of chapter 7: it returns true. -/
import Derived.Test.YtggfdhjckohmjaaDoorHeld
import Derived.Deep.RegionHeld3
namespace Go.Proofs.YtggfdhjckohmjaaDoor
open Go.RowKit

theorem flatM_set (L : List (Int × Int)) (k : Nat) (hk : k < L.length) (p q : Int) :
    (((flatM L).toArray.setIfInBounds (k * 2) (.int .i64 p)).setIfInBounds (k * 2 + 1) (.int .i64 q)) = (flatM (L.set k (p, q))).toArray := by
  rw [List.setIfInBounds_toArray, List.setIfInBounds_toArray]
  congr 1
  induction L generalizing k with
  | nil => simp at hk
  | cons x L ih =>
    cases k with
    | zero => simp [flatM]
    | succ k =>
      have := ih k (by simpa using hk)
      have e : (k + 1) * 2 = k * 2 + 1 + 1 := by omega
      rw [e]
      simp only [flatM, List.flatMap_cons, List.set_cons_succ, List.cons_append, List.nil_append] at this ⊢
      rw [this]
theorem mapBytes_set (L : List (Int × Int)) (k : Nat) (hk : k < L.length) (e : Int × Int) :
    (mapBytes (L.set k e)).take (8 * k) = (mapBytes L).take (8 * k) ∧ (mapBytes (L.set k e)).drop (8 * k + 8) = (mapBytes L).drop (8 * k + 8) := by
  induction L generalizing k with
  | nil => simp at hk
  | cons x L ih =>
    have hcons : ∀ (y : Int × Int) (M : List (Int × Int)), mapBytes (y :: M) = b8 y.1 y.2 ++ mapBytes M := fun y M => by simp [mapBytes]
    cases k with
    | zero =>
      rw [List.set_cons_zero, hcons, hcons]
      exact ⟨rfl, by rw [show 8 * 0 + 8 = (b8 e.1 e.2).length from rfl, List.drop_left, show (b8 e.1 e.2).length = (b8 x.1 x.2).length from rfl, List.drop_left]⟩
    | succ k =>
      obtain ⟨h1, h2⟩ := ih k (by simpa using hk)
      rw [List.set_cons_succ, hcons, hcons]
      have e1 : 8 * (k + 1) = (b8 x.1 x.2).length + 8 * k := by show _ = 8 + 8 * k; omega
      have e2 : 8 * (k + 1) + 8 = (b8 x.1 x.2).length + (8 * k + 8) := by show _ = 8 + _; omega
      rw [e2, List.drop_append, List.drop_append, Nat.add_sub_cancel_left, h2, e1, List.take_append, List.take_append, Nat.add_sub_cancel_left, h1]
      exact ⟨rfl, rfl⟩

theorem bytesAt_take {w : World} {g o : Nat} {xs : List Int} (h : BytesAt w g o xs) (n : Nat) : BytesAt w g o (xs.take n) := by
  intro i hi
  rw [List.length_take] at hi
  rw [h i (by omega)]
  simp [List.getD_eq_getElem?_getD, List.getElem?_take, show i < n by omega]
theorem bytesAt_drop {w : World} {g : Nat} {xs : List Int} (h : BytesAt w g 0 xs) (n : Nat) : BytesAt w g n (xs.drop n) := by
  intro i hi
  rw [List.length_drop] at hi
  have := h (n + i) (by omega)
  rw [Nat.zero_add] at this
  rw [this]
  simp [List.getD_eq_getElem?_getD, List.getElem?_drop]
/-- 'b[8*k+8:]', as the walk spells it: at the slice's very end its place is the slice's own. -/
theorem strOf_tail {w : World} {g : Nat} {xs : List Int} (h : BytesAt w g 0 xs) (k c c₂ : Nat) (hk : k < 8) (hl : xs.length = 64) (hc : 64 ≤ c) :
    (convert 26 9 (.slice (if c = 8 * k + 8 then some ⟨g, 0, none⟩ else some ⟨g, 8 * k + 8, none⟩) (56 - 8 * k) c₂)).run Tryd.prog w = .ok (.string (strOfNums (xs.drop (8 * k + 8)))) w := by
  have hd : (xs.drop (8 * k + 8)).length = 56 - 8 * k := by rw [List.length_drop]; omega
  by_cases e : c = 8 * k + 8
  · have h0 : xs.drop (8 * k + 8) = [] := List.eq_nil_of_length_eq_zero (by omega)
    rw [if_pos e, h0, show 56 - 8 * k = ([] : List Int).length by simp; omega]
    exact strOf_bytes w g 0 [] (fun i hi => by simp at hi) c₂
  · rw [if_neg e, ← hd]
    exact strOf_bytes w g (8 * k + 8) _ (bytesAt_drop h _) c₂

theorem pick_below {W X : World} {b : Nat} {l : List Value} (_ : X.rangeAt b 0 l) (h : Below W.heap.size W X) : Below W.heap.size W X := h
section
variable {P : Program} {o : Oper} {a : Act} {C : World → Prop} {K : Act → Prop}
theorem quiet_load_mid (ty : TypeId) (x : Operand) (ho : o.op = .load ty x) (b i : Nat) (hx : a.eval x = .pointer (some ⟨b, i, none⟩)) (cs : List Value) (d : TypeDesc) (hg : ∀ w, C w → w.rangeAt b i cs)
    (hu : P.underlying ty = some d) (hd : d.isRow = true) (hi : (P.info? ty).map (·.size) = some cs.length) (hk : K (a.put o.dst (.agg cs.toArray))) : o.quiet P a C K :=
  ⟨_, fun w hw => by
    unfold Oper.quietAt execOp
    simp only [ho, hx, Instr.loadAt, Instr.sureAddr, Sem.run_bind, Sem.run_pure, Result.andThen_ok, run_loadVar_mid w b i ty cs d (hg w hw) hu hd hi]
    exact ⟨rfl, rfl⟩, hk⟩
end

set_option maxHeartbeats 2000000 in
set_option maxRecDepth 100000 in
theorem lawPlaces_any (L : List (Int × Int)) (hL : L.length = 8) (i p q : Int) (w : World) :
    Calls Tryd.prog 7 #[.agg (flatM L).toArray, .int .i64 i, .agg #[.int .i64 p, .int .i64 q]] w fun e w' => e = .returned (.bool true) ∧ Below w.heap.size w w' := by
  obtain ⟨Y, hY⟩ : ∃ Y, Y = (flatM L).toArray := ⟨_, rfl⟩
  have hYs : Y.size = 16 := by rw [hY]; simp [flatM_length, hL]
  rw [← hY]
  have HY := Lib.hid hY; clear hY
  have HL := Lib.hid hL; clear hL
  go_enter Tryd.func7, Tryd.ntmps7
  go_wp2_with fail
  refine (awake_any _).mono ?_
  rintro e w1 ⟨rfl, hb1⟩
  have k1 := Lib.hid (blk_below hb1 (by simp; omega) (blk_old (@blk_new w (.cells Y 24 (0, 0)) w.heap.size rfl)))
  have j1 := Lib.hid (blk_below hb1 (by simp) (@blk_new (w.alloc (.cells Y 24 (0, 0))) (.cells #[.int .i64 p, .int .i64 q] 23 (0, 0)) (w.heap.size + 1) (by simp)))
  have hbel1 := below_call (below_alloc (below_alloc (Below.refl _ w) (Nat.le_refl _) _) (Nat.le_refl _) _) hb1 (Nat.le_refl _)
  clear hb1
  go_wp2_with (refine wpList_load_row rfl 24 _ rfl _ rfl 24 _ _ _ k1.out Tryd.underlying24 rfl (by rw [hYs]; kernel_rfl) ?_)
  obtain ⟨k, hk8, hkw⟩ : ∃ k : Nat, k < 8 ∧ RowKit.wrap64 ((IntKind.u64.wrap i).tmod 8) = (k : Int) := ⟨(IntKind.u64.wrap i % 8).toNat, by omega, by
    have h0 : 0 ≤ IntKind.u64.wrap i := by simp only [IntKind.wrap, IntKind.signed, IntKind.bits]; simp; omega
    rw [Int.tmod_eq_emod_of_nonneg h0]
    have := IntWalk.i64_in (IntKind.u64.wrap i % 8) (by omega)
    first | (rw [this]; omega) | (unfold RowKit.wrap64; omega)⟩
  rw [hkw]
  clear hkw
  have hmb := Lib.hid (fun w => mapBlock_any L HL.out w)
  have hmc := Lib.hid (fun w => mapBlock_any (L.set k (p, q)) (by rw [List.length_set]; exact HL.out) w)
  obtain ⟨Z, hZ⟩ : ∃ Z, Z = (flatM (L.set k (p, q))).toArray := ⟨_, rfl⟩
  have hZs : Z.size = 16 := by rw [hZ]; simp [flatM_length, HL.out]
  have hset : (Y.setIfInBounds (k * 2) (.int .i64 p)).setIfInBounds (k * 2 + 1) (.int .i64 q) = Z := by
    rw [HY.out, hZ]; exact flatM_set L k (by rw [HL.out]; exact hk8) p q
  rw [← HY.out] at hmb
  rw [← hZ] at hmc
  have HZ := Lib.hid hZ; clear hZ
  have HS := Lib.hid hset; clear hset
  refine (hmb.out _).mono ?_
  rintro e w2 ⟨ha, hn, hb2⟩
  have k2 := blk_below hb2 (blk_lt k1.out) k1.out
  have j2 := blk_below hb2 (blk_lt j1.out) j1.out
  have hbel2 := below_call hbel1 hb2 (Nat.le_refl _)
  have hcnd : (allOkM L ∧ ∃ g c, e = .returned (.tuple #[.slice (some ⟨g, 0, none⟩) 64 c, .int .i64 0]) ∧ w1.heap.size ≤ g ∧ g < w2.heap.size ∧ 64 ≤ c ∧ (mapBytes L).length = 64 ∧ BytesAt w2 g 0 (mapBytes L)) ∨ e = .returned (.tuple #[.slice none 0 0, .int .i64 22]) := by
    by_cases hok : allOkM L
    · obtain ⟨x, y, rfl, hown, rfl⟩ := ha hok
      rw [HL.out] at hown
      obtain ⟨g, c, rfl, h1, hg, hc, hml, hby⟩ := own_bytes hown (by omega)
      exact .inl ⟨hok, g, c, rfl, h1, hg, by omega, by omega, hby⟩
    · exact .inr (hn hok)
  clear ha hn hb2
  have c0 := cell_blk_some j2 (i := 0) (by rfl)
  have c1 := cell_blk_some j2 (i := 1) (by rfl)
  have e0 : ∃ u, w2.cell? ⟨w.heap.size, k * 2, none⟩ = some u := ⟨_, cell_blk_some k2 (Array.getElem?_eq_getElem (by omega))⟩
  have e1 : ∃ u, w2.cell? ⟨w.heap.size, k * 2 + 1, none⟩ = some u := ⟨_, cell_blk_some k2 (Array.getElem?_eq_getElem (by omega))⟩
  obtain ⟨u0, e0⟩ := e0
  obtain ⟨u1, e1⟩ := e1
  have f0 := free_blk (i := k * 2) k2
  have f1 := free_blk (i := k * 2 + 1) k2
  have K2 := Lib.hid k2; clear k2
  have J2 := Lib.hid j2; clear j2
  have sz := blk_lt K2.out
  have hsz1 := blk_lt j1.out
  clear k1 j1 hmb
  have hk8' : (k : Int) < 8 := by omega
  have kz : ((w2.setCell ⟨w.heap.size, k * 2, none⟩ (.int .i64 p)).setCell ⟨w.heap.size, k * 2 + 1, none⟩ (.int .i64 q)).heap[w.heap.size]? = some (.cells Z 24 (0, 0)) := by
    have := blk_set (i := k * 2 + 1) (blk_set (i := k * 2) K2.out (.int .i64 p)) (.int .i64 q)
    rw [HS.out] at this
    exact this
  have jz : ((w2.setCell ⟨w.heap.size, k * 2, none⟩ (.int .i64 p)).setCell ⟨w.heap.size, k * 2 + 1, none⟩ (.int .i64 q)).heap[w.heap.size + 1]? = some (.cells #[.int .i64 p, .int .i64 q] 23 (0, 0)) :=
    blk_set_other (blk_set_other J2.out (by simp) _) (by simp) _
  have hbelz : Below w.heap.size w ((w2.setCell ⟨w.heap.size, k * 2, none⟩ (.int .i64 p)).setCell ⟨w.heap.size, k * 2 + 1, none⟩ (.int .i64 q)) :=
    (hbel2.setCell (by simp) _).setCell (by simp) _
  have hszz : ((w2.setCell ⟨w.heap.size, k * 2, none⟩ (.int .i64 p)).setCell ⟨w.heap.size, k * 2 + 1, none⟩ (.int .i64 q)).heap.size = w2.heap.size := by simp
  have HSZ := Lib.hid hszz; clear hszz
  have KZ := Lib.hid kz; clear kz
  have JZ := Lib.hid jz; clear jz
  rcases hcnd with ⟨hok, g, c, rfl, hg1, hg2, hc, hml, hby⟩ | rfl
  · have HB := Lib.hid hby; clear hby
    have hbz : BytesAt ((w2.setCell ⟨w.heap.size, k * 2, none⟩ (.int .i64 p)).setCell ⟨w.heap.size, k * 2 + 1, none⟩ (.int .i64 q)) g 0 (mapBytes L) := by
      intro j hj
      have hx := Array.getElem?_eq_getElem hg2
      refine (World.cell?_of_block (w := w2) (a := ⟨g, 0 + j, none⟩) ?_).trans (HB.out j hj)
      exact (blk_set_other (blk_set_other hx (by simp; omega) _) (by simp; omega) _).trans hx.symm
    have HBZ := Lib.hid hbz; clear hbz
    go_wp2_with (refine wpList_load_row rfl 24 _ rfl _ rfl 24 _ _ _ KZ.out Tryd.underlying24 rfl (by rw [hZs]; kernel_rfl) ?_)
    refine (hmc.out _).mono ?_
    rintro e w3 ⟨ha, hn, hb3⟩
    have k3 := Lib.hid (blk_below hb3 (blk_lt KZ.out) KZ.out)
    have j3 := Lib.hid (blk_below hb3 (blk_lt JZ.out) JZ.out)
    have hbel3 := below_call hbelz hb3 (Nat.le_refl _)
    have hby3 := Lib.hid (bytes_below HBZ.out hb3 (by rw [HSZ.out]; exact hg2))
    have hg3 : g < w3.heap.size := Nat.lt_of_lt_of_le (by rw [HSZ.out]; exact hg2) hb3.size
    clear hb3
    by_cases hok' : allOkM (L.set k (p, q))
    · obtain ⟨x, y, rfl, hown, rfl⟩ := ha hok'
      clear ha hn
      rw [List.length_set, HL.out] at hown
      obtain ⟨g', c', rfl, hg1', hg2', hc', hml', hby'⟩ := own_bytes hown (by omega)
      clear hown e0 e1 c0 c1 f0 f1
      clear KZ JZ HBZ HSZ hbelz hbel2 HB K2 J2 hbel1 hmc sz
      go_wp2_with fail
      have HB' := Lib.hid hby'; clear hby'
      have w1' : IntKind.i64.wrap (8 * (k : Int)) = 8 * (k : Int) := IntWalk.i64_in _ (by omega)
      have w2' : IntKind.i64.wrap (8 * (k : Int) + 8) = 8 * (k : Int) + 8 := IntWalk.i64_in _ (by omega)
      have t1' : (8 * (k : Int)).toNat = 8 * k := by omega
      have t2' : (8 * (k : Int) + 8).toNat = 8 * k + 8 := by omega
      have n1' : 8 * k ≤ 64 := by omega
      have n2' : 8 * k + 8 ≤ 64 := by omega
      have n3' : 8 * k ≤ c := by omega
      have n4' : 8 * k ≤ c' := by omega
      have m1' : 8 * (k : Int) ≤ 64 := by omega
      have m2' : 8 * (k : Int) + 8 ≤ 64 := by omega
      have m3' : 8 * (k : Int) ≤ (c : Int) := by omega
      have m4' : 8 * (k : Int) ≤ (c' : Int) := by omega
      have m5' : (0 : Int) ≤ 8 * (k : Int) := by omega
      have m6' : (0 : Int) ≤ 8 * (k : Int) + 8 := by omega
      obtain ⟨xs, hxs⟩ : ∃ xs, xs = mapBytes L := ⟨_, rfl⟩
      obtain ⟨ys, hys⟩ : ∃ ys, ys = mapBytes (L.set k (p, q)) := ⟨_, rfl⟩
      rw [← hxs] at hby3 hml
      rw [← hys] at HB' hml'
      have htd := mapBytes_set L k (by rw [HL.out]; exact hk8) (p, q)
      rw [← hxs, ← hys] at htd
      obtain ⟨htk, hdr⟩ := htd
      have HXS := Lib.hid hxs; have HYS := Lib.hid hys
      clear hxs hys
      obtain ⟨S1, hS1⟩ : ∃ S, S = strOfNums (xs.take (8 * k)) := ⟨_, rfl⟩
      obtain ⟨S2, hS2⟩ : ∃ S, S = strOfNums (xs.drop (8 * k + 8)) := ⟨_, rfl⟩
      have conv1 := fun n => strOf_bytes (w3.drewN n) g 0 (xs.take (8 * k)) (bytesAt_take hby3.out (8 * k)) c
      have conv2 := fun n => strOf_bytes (w3.drewN n) g' 0 (ys.take (8 * k)) (bytesAt_take HB'.out (8 * k)) c'
      have conv3 := fun n (c₂ : Nat) => strOf_tail (w := w3.drewN n) (g := g) hby3.out k c c₂ hk8 (by omega) hc
      have conv4 := fun n (c₂ : Nat) => strOf_tail (w := w3.drewN n) (g := g') HB'.out k c' c₂ hk8 (by omega) (by omega)
      rw [List.length_take, show min (8 * k) xs.length = 8 * k by omega, ← hS1] at conv1
      rw [htk, List.length_take, show min (8 * k) xs.length = 8 * k by omega, ← hS1] at conv2
      rw [← hS2] at conv3
      rw [hdr, ← hS2] at conv4
      have HTK := Lib.hid htk; have HDR := Lib.hid hdr; have HS1 := Lib.hid hS1; have HS2 := Lib.hid hS2
      clear htk hdr hS1 hS2
      refine wp_region_quiet_lit (by kernel_rfl) (by kernel_rfl) ?_
      repeat (go_big_quiet_step (fail))
      refine wpQuiet_nil ?_
      rintro _ ⟨n, rfl⟩
      have hbel4 := below_drewN hbel3 n
      have k4 : (w3.drewN n).heap[w.heap.size]? = _ := k3.out
      have j4 : (w3.drewN n).heap[w.heap.size + 1]? = _ := j3.out
      have hbx : BytesAt (w3.drewN n) g 0 xs := hby3.out
      have hby : BytesAt (w3.drewN n) g' 0 ys := HB'.out
      have hgx : g < (w3.drewN n).heap.size := hg3
      have hgy : g' < (w3.drewN n).heap.size := hg2'
      clear conv1 conv2 conv3 conv4 k3 j3 hby3 HB' hg3 hg2' hbel3 hg1' hg1 hg2
      generalize w3.drewN n = w4 at hbel4 k4 j4 hbx hby hgx hgy ⊢
      have K4 := Lib.hid k4; have J4 := Lib.hid j4; have HX := Lib.hid hbx; have HYB := Lib.hid hby
      clear k4 j4 hbx hby
      generalize (if c = 8 * k + 8 then some (⟨g, 0, none⟩ : Addr) else some ⟨g, 8 * k + 8, none⟩) = ad1
      generalize (if c' = 8 * k + 8 then some (⟨g', 0, none⟩ : Addr) else some ⟨g', 8 * k + 8, none⟩) = ad2
      go_wp2_with fail
      have m7' : 8 * (k : Int) + 8 ≤ (c : Int) := by omega
      have m8' : 8 * (k : Int) + 8 ≤ (c' : Int) := by omega
      have n5' : 8 * k + 8 ≤ c := by omega
      have n6' : 8 * k + 8 ≤ c' := by omega
      have n7' : ¬ c' = 8 * k := by omega
      have m9' : 8 * (k : Int) ≤ 8 * (k : Int) + 8 := by omega
      have S0 : Below w4.heap.size w4 { w4 with drawn := w4.drawn + 1 } := below_drewN (Below.refl _ _) 1
      have hn1 : ∀ w', Below w4.heap.size w4 w' → ∀ j u, (u8s (xs.take (8 * k)))[j]? = some u → w'.cell? ((⟨g, 0, none⟩ : Addr).add j) = some u :=
        fun w' h => news_at (bytesAt_take (bytes_below HX.out h hgx) _)
      have hn2 : ∀ w', Below w4.heap.size w4 w' → ∀ j u, (u8s ((ys.drop (8 * k)).take 8))[j]? = some u → w'.cell? ((⟨g', 8 * k, none⟩ : Addr).add j) = some u :=
        fun w' h => news_at (bytesAt_take (bytesAt_drop (bytes_below HYB.out h hgy) _) _)
      have hn3 : ∀ w', Below w4.heap.size w4 w' → ∀ j u, (u8s (xs.drop (8 * k + 8)))[j]? = some u → w'.cell? ((if c = 8 * k + 8 then (⟨g, 0, none⟩ : Addr) else ⟨g, 8 * k + 8, none⟩).add j) = some u := fun w' h j u hu => by
        split
        · have hj : j < (xs.drop (8 * k + 8)).length := by have := (List.getElem?_eq_some_iff.1 hu).1; simpa [u8s_length] using this
          rw [List.length_drop] at hj; omega
        · exact news_at (bytesAt_drop (bytes_below HX.out h hgx) _) j u hu
      have hlist : [] ++ u8s (xs.take (8 * k)) ++ u8s ((ys.drop (8 * k)).take 8) ++ u8s (xs.drop (8 * k + 8)) = u8s ys := by
        rw [List.nil_append, ← u8s_append, ← u8s_append, ← HTK.out, ← HDR.out, ← List.drop_drop, List.append_assoc, List.take_append_drop, List.take_append_drop]
      have l1 : (u8s (xs.take (8 * k))).length = 8 * k := by rw [u8s_length, List.length_take]; omega
      have l2 : (u8s ((ys.drop (8 * k)).take 8)).length = 8 := by rw [u8s_length, List.length_take, List.length_drop]; omega
      have l3 : (u8s (xs.drop (8 * k + 8))).length = 56 - 8 * k := by rw [u8s_length, List.length_drop]; omega
      have okb : isBytes ys := by rw [HYS.out]; exact isBytes_mapBytes _ hok'
      have hdec : decI ys = L.set k (p, q) := by rw [HYS.out]; exact decI_map _ hok' (by rw [List.length_set]; exact HL.out)
      have hokr : okRM ys := ⟨by omega, by rw [hdec]; exact hok', by rw [hdec, HYS.out]⟩
      have hmr : mapR ys = L.set k (p, q) := by unfold mapR; rw [if_pos hokr]; exact hdec
      have hcr : codeM ys = 0 := by unfold codeM; rw [if_pos hokr]
      have r1 : ∀ (w : World) (v : Value) (n : Nat) (l : List Value) (O : Option Nat), Held w w4.heap.size v n l O → n = 64 → l = u8s ys → Calls Tryd.prog 13 #[v] w (fun e w' => e = .returned (.tuple #[.agg Z, .int .i64 0]) ∧ Below w.heap.size w w') := fun w v n l O h hn hl => by
        subst hl
        have hsrc := SrcAt.own (xs := ys) (show w.ownsRow w4.heap.size 5 1 v ys.length (u8s ys) by rw [show ys.length = n by omega]; exact h.1)
        have := readMap_all okb (by omega) hsrc (Nat.le_refl _)
        unfold RetsM at this
        rw [hmr, hcr, ← HZ.out] at this
        exact this
      have R1 := Lib.hid r1
      have N1 := Lib.hid hn1; have N2 := Lib.hid hn2; have N3 := Lib.hid hn3; have LI := Lib.hid hlist
      have OKR := Lib.hid hokr; have MR := Lib.hid hmr
      have honeZ : Z.all (·.oneCell') = true := by rw [HZ.out]; exact flatM_one _
      have hst : ∀ (w' : World) (b : Nat), w'.there b 0 16 → (storeCells ⟨b, 0, none⟩ Z.toList 0).run Tryd.prog w' = .ok () (w'.setCells b 0 Z.toList) := fun w' b ht => by
        have := run_storeVar_mid (P := Tryd.prog) w' b 0 24 Z (by rw [hZs]; exact ht) (by rw [hZs]; kernel_rfl) honeZ
        cases hq : Tryd.prog.info? 24 with
        | none => exact absurd (show (Tryd.prog.info? 24).isSome = true by kernel_rfl) (by rw [hq]; simp)
        | some i =>
          have hi : (Tryd.prog.info? 24).map (·.size) = some Z.size := by rw [hZs]; kernel_rfl
          have hs : Z.size = i.size := by rw [hq] at hi; simp at hi; omega
          simpa [storeVar, sizeOf, typeInfo, hq, Value.cells, hs] using this
      have hthz : ∀ w : World, (w.alloc (.cells #[.int .i64 0, .int .i64 0, .int .i64 0, .int .i64 0, .int .i64 0, .int .i64 0, .int .i64 0, .int .i64 0, .int .i64 0, .int .i64 0, .int .i64 0, .int .i64 0, .int .i64 0, .int .i64 0, .int .i64 0, .int .i64 0] 24)).there w.heap.size 0 16 := fun w => there_new rfl
      have hf1 := Held.start1 w4
      have hf2 := Held.start2 w4 #[.int .i64 0, .int .i64 0, .int .i64 0, .int .i64 0, .int .i64 0, .int .i64 0, .int .i64 0, .int .i64 0, .int .i64 0, .int .i64 0, .int .i64 0, .int .i64 0, .int .i64 0, .int .i64 0, .int .i64 0, .int .i64 0] 24 rfl
      have hf3 := Held.start3 w4 #[.int .i64 0, .int .i64 0, .int .i64 0, .int .i64 0, .int .i64 0, .int .i64 0, .int .i64 0, .int .i64 0, .int .i64 0, .int .i64 0, .int .i64 0, .int .i64 0, .int .i64 0, .int .i64 0, .int .i64 0, .int .i64 0] 24 rfl
      clear r1 hn1 hn2 hn3 hlist okb hdec hokr hmr hcr
      go_region_held3 (fun w' => Below w4.heap.size w4 w')
        (first | assumption | exact below_alloc (by assumption) (Nat.le_refl _) _ | exact below_setCells (by assumption) (by assumption) | exact below_setCells (by assumption) hbC.size)
        (first
          | (refine step_append_held rfl _ _ rfl w4.heap.size _ _ _ _ rfl (by first | exact hf1 | exact hf2 | exact hf3) w4 (by assumption) ⟨g, 0, none⟩ (8 * k) _ (u8s (xs.take (8 * k))) rfl l1 (N1.out _ (by assumption)) (u8s_one _) (by omega) (Below.size (by assumption)) ?_; intro v1 wA hhA hbA hsA)
          | (refine step_append_held rfl _ _ rfl w4.heap.size _ _ _ _ rfl (by first | assumption | exact Held.alloc (by assumption) _ _ rfl (by assumption)) w4 (by assumption) ⟨g', 8 * k, none⟩ 8 _ (u8s ((ys.drop (8 * k)).take 8)) rfl l2 (N2.out _ (by assumption)) (u8s_one _) (by omega) (Below.size (by assumption)) ?_; intro v2 wB hhB hbB hsB)
          | (refine step_append_held rfl _ _ rfl w4.heap.size _ _ _ _ rfl (by first | assumption | exact Held.alloc (by assumption) _ _ rfl (by assumption)) w4 (by assumption) _ (56 - 8 * k) _ (u8s (xs.drop (8 * k + 8))) (ite_slice _ _ _ _) l3 (N3.out _ (by assumption)) (u8s_one _) (by omega) (Below.size (by assumption)) ?_; intro v3 wC hhC hbC' hsC)
          | (go_at_call 13; refine (R1.out _ _ _ _ _ (by first | assumption | exact Held.alloc (by assumption) _ _ rfl (by assumption)) (by omega) LI.out).mono ?_; rintro e w5 ⟨rfl, hb5⟩; have hbC := below_call (B := w4.heap.size) (a := w4) (by assumption) hb5 (Nat.le_refl _); (first | (have hth := (there_call (by assumption) hb5).1; have hbb := (there_call (by assumption) hb5).2) | (have hth := (there_call (Held.alloc (by assumption) _ _ rfl (by assumption)) hb5).1; have hbb := (there_call (Held.alloc (by assumption) _ _ rfl (by assumption)) hb5).2) | skip); dsimp only))
      all_goals
        have hlenZ : Z.toList.length = 16 := by rw [Array.length_toList, hZs]
        first
          | (have hrng := World.rangeAt_setCells_same w5 _ 0 Z.toList (by rw [hlenZ]; exact hth))
          | (have hrng := World.rangeAt_setCells_same _ _ 0 Z.toList (by rw [hlenZ]; exact hthz w5))
        have hB5 := pick_below (W := w4) hrng (by assumption)
        have hB6 := below_call hbel4 hB5 (Nat.le_refl _)
        have k6 := blk_below hB5 (blk_lt K4.out) K4.out
        have j6 := blk_below hB5 (blk_lt J4.out) J4.out
        have cj0 := cell_blk_some j6 (i := 0) (by rfl)
        have cj1 := cell_blk_some j6 (i := 1) (by rfl)
        have hkL : k < (L.set k (p, q)).length := by rw [List.length_set, HL.out]; exact hk8
        have hZd : (L.set k (p, q)).getD k (0, 0) = (p, q) := by rw [List.getD_eq_getElem?_getD, List.getElem?_set_self (by rw [HL.out]; exact hk8)]; rfl
        obtain ⟨z0, z1⟩ := flatM_get (L.set k (p, q)) k hkL
        rw [hZd] at z0 z1
        have zl : Z.toList = flatM (L.set k (p, q)) := by rw [HZ.out]
        have cz0 := hrng (k * 2) _ (by rw [zl]; simpa using z0)
        have cz1 := hrng (k * 2 + 1) _ (by rw [zl]; simpa using z1)
        rw [Nat.zero_add] at cz0 cz1
        have hi24 : (Tryd.prog.info? 24).map (·.size) = some Z.toList.length := by rw [hlenZ]; kernel_rfl
        have q24 : ∀ w, (Op.equalIn 10000 24 (.agg Z) (.agg Z)).run Tryd.prog w = .ok true w := fun w => by
          rw [HZ.out]; exact (eqInM 9997 _ _ (by rw [List.length_set]; exact HL.out) (by rw [List.length_set]; exact HL.out) w).trans (by rw [decide_eq_true rfl])
        have g24 : Tryd.prog.eqGuardType Tryd.prog.depth 24 = false := by kernel_rfl
        have HR := Lib.hid hrng; have K6 := Lib.hid k6
        clear hrng k6 j6 zl z0 z1 hZd hkL hst hthz honeZ N1 N2 N3 R1 LI OKR MR hf1 hf2 hf3 l1 l2 l3 hB5 K4 J4 HX HYB
        generalize (if c = 8 * k + 8 then some (⟨g, 0, none⟩ : Addr) else some ⟨g, 8 * k + 8, none⟩) = ad3
        go_wp2_with fail
        refine wp_region_quiet_lit (by kernel_rfl) (by kernel_rfl) ?_
        repeat (first
          | (go_big_quiet_step (fail))
          | (go_big_quiet_want; refine quiet_load_row _ _ rfl _ rfl _ _ _ _ (by rintro _ ⟨n, rfl⟩; exact K6.out) Tryd.underlying24 rfl (by rw [hZs]; kernel_rfl) ?_; go_big_quiet_on; simp only [Act.put, List.setIfInBounds_toArray, List.set_cons_succ, List.set_cons_zero])
          | (go_big_quiet_want; refine quiet_load_mid _ _ rfl _ _ rfl _ _ (by rintro _ ⟨n, rfl⟩; exact HR.out) Tryd.underlying24 rfl hi24 ?_; go_big_quiet_on; simp only [Act.put, List.setIfInBounds_toArray, List.set_cons_succ, List.set_cons_zero]))
        refine wpQuiet_nil ?_
        rintro _ ⟨n, rfl⟩
        have hB7 := below_drewN hB6 n
        clear hB6 HR K6 cz0 cz1 cj0 cj1 q24
        go_wp2_with fail
        go_ret
        exact ⟨rfl, hB7⟩
    · obtain rfl := hn hok'
      clear ha hn
      have HN := Lib.hid hok'; clear hok'
      clear e0 e1 c0 c1 f0 f1
      go_wp2_with fail
      go_ret
      exact ⟨rfl, hbel3⟩
  · go_wp2_with (refine wpList_load_row rfl 24 _ rfl _ rfl 24 _ _ _ KZ.out Tryd.underlying24 rfl (by rw [hZs]; kernel_rfl) ?_)
    refine (hmc.out _).mono ?_
    rintro e w3 ⟨ha, hn, hb3⟩
    have hbel3 := below_call hbelz hb3 (Nat.le_refl _)
    clear hb3 e0 e1 c0 c1 f0 f1
    by_cases hok' : allOkM (L.set k (p, q))
    · obtain ⟨x, y, rfl, hown, rfl⟩ := ha hok'
      clear ha hn
      rw [List.length_set, HL.out] at hown
      obtain ⟨g', c', rfl, hg1', hg2', hc', hml', hby'⟩ := own_bytes hown (by omega)
      clear hown
      go_wp2_with fail
      go_ret
      exact ⟨rfl, hbel3⟩
    · obtain rfl := hn hok'
      clear ha hn
      have HN := Lib.hid hok'; clear hok'
      go_wp2_with fail
      go_ret
      exact ⟨rfl, hbel3⟩
end Go.Proofs.YtggfdhjckohmjaaDoor
