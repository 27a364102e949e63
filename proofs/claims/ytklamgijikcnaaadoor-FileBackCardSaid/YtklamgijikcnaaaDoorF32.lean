/- Walk of the reference's Find. -/
import Derived.Test.YtklamgijikcnaaaDoorF31
namespace Go.Proofs.YtklamgijikcnaaaDoor
open Go.RowKit

/-- What each operation of the region says that answers a data block. -/
-- FACTS
def F11 (Z qb tb : Nat) (n : Int) (r : MetaR) (mv sv : Value) (k : Nat) (y : Nat → Value) (tag : Nat → Nat) (w : World) : Prop :=
  match k with
  | 0 => y 0 = .int .i64 n
  | 1 => y 1 = .int .i64 n
  | 2 => y 2 = .pointer (some ⟨qb, 3, none⟩)
  | 3 => y 3 = .pointer (some ⟨qb, 3, none⟩)
  | 4 => y 4 = .int .i64 r.root
  | 5 => Hold tag 1 w Z (y 5) []
  | 6 => y 6 = .pointer (some ⟨qb, 3, none⟩)
  | 7 => y 7 = .pointer (some ⟨qb, 4, none⟩)
  | 8 => y 8 = mv
  | 9 => Hold tag 1 w Z (y 9) r.ms
  | 10 => y 10 = .pointer (some ⟨qb, 0, none⟩)
  | 11 => y 11 = .int .i64 r.n
  | 12 => Hold tag 2 w Z (y 12) [r.n]
  | 13 => Hold tag 1 w Z (y 13) (r.ms ++ [r.n])
  | 14 => Hold tag 3 w Z (y 14) []
  | 15 => y 15 = .pointer (some ⟨qb, 3, none⟩)
  | 16 => y 16 = .pointer (some ⟨qb, 5, none⟩)
  | 17 => y 17 = sv
  | 18 => Hold tag 3 w Z (y 18) r.ss
  | 19 => y 19 = .int .i64 n
  | 20 => y 20 = .pointer (some ⟨qb, 2, none⟩)
  | 21 => y 21 = .int .i64 r.first
  | 22 => y 22 = .int .i64 (n - r.first)
  | 23 => Hold tag 4 w Z (y 23) [n - r.first]
  | 24 => Hold tag 3 w Z (y 24) (r.ss ++ [n - r.first])
  | 25 => ∃ a13 c13 a24 c24, y 13 = .slice a13 (r.ms.length + 1) c13 ∧ y 24 = .slice a24 (r.ss.length + 1) c24 ∧ y 25 = .agg #[.int .i64 r.root, .slice a13 (r.ms.length + 1) c13, .slice a24 (r.ss.length + 1) c24]
  | 26 => ∃ vM vS, y 25 = .agg #[.int .i64 r.root, vM, vS] ∧ y 26 = .agg #[.int .i64 n, .int .i64 0, .int .i64 n, .int .i64 r.root, vM, vS]
  | 27 => w.heap[tb]? = some (.cells #[.int .i64 n, .int .i64 0, .int .i64 n, .int .i64 r.root, y 13, y 24] 34 (0, 0))
  | 28 => y 28 = .bool true
  | _ => True
def C11 : Nat → List Nat
  | 5 => [9] | 9 => [13] | 12 => [13] | 14 => [18] | 18 => [24] | 23 => [24] | _ => []
theorem lt29 {k : Nat} (h : k < 29) : k = 0 ∨ k = 1 ∨ k = 2 ∨ k = 3 ∨ k = 4 ∨ k = 5 ∨ k = 6 ∨ k = 7 ∨ k = 8 ∨ k = 9 ∨ k = 10 ∨ k = 11 ∨ k = 12 ∨ k = 13 ∨ k = 14 ∨ k = 15 ∨ k = 16 ∨ k = 17 ∨ k = 18 ∨ k = 19 ∨ k = 20 ∨ k = 21 ∨ k = 22 ∨ k = 23 ∨ k = 24 ∨ k = 25 ∨ k = 26 ∨ k = 27 ∨ k = 28 := by omega
-- END FACTS
/-- While All's blocks are gone through. -/
structure FindSt (n : Int) (w : World) (v : Value) (j : Nat) (wr : World) : Prop where
  ms : MetasAt wr w.heap.size w.heap.size v allN
  box : wr.heap[w.heap.size]? = some (.cells #[.int .i64 0, .int .i64 0, .int .i64 0, .int .i64 0, .slice none 0 0, .slice none 0 0] 34 (0, 0))
  bel : Below w.heap.size w wr
  no : ∀ x ∈ allN.take j, hitR n x = none
theorem FindSt.below {n : Int} {w wr w' : World} {v : Value} {j : Nat} (h : FindSt n w v j wr) (hb : Below wr.heap.size wr w') : FindSt n w v j w' :=
  ⟨h.ms.below hb, (hb.block _ (blk_lt h.box)).trans h.box, below_call h.bel hb (Nat.le_refl _), h.no⟩
set_option maxHeartbeats 4000000 in
set_option maxRecDepth 100000 in
theorem rfind_any (n : Int) (w : World) : Calls Tryd.prog 12 #[.int .i64 n] w (RFind n w) := by
  have nil : ∀ w' : World, RowI w' w.heap.size (.slice none 0 0) [] := fun w' => ⟨none, 0, rfl, by simp, fun h => by simp at h⟩
  have HN := Lib.hid nil
  clear nil
  by_cases h6 : 0 ≤ n ∧ n < 6
  · obtain ⟨h0, h1⟩ := h6
    have hr : rfindN n = some ⟨n, 0, n, n, [], []⟩ := by unfold rfindN; rw [if_pos ⟨h0, h1⟩]
    have HR := Lib.hid hr
    clear hr
    go_enter Tryd.func12, Tryd.ntmps12
    go_wp2_with fail
    refine bodyPost_ret (results_row_tmp rfl _ _ w.heap.size _ _ _ _ rfl (blk_new rfl) Tryd.underlying34 rfl (by kernel_rfl)) rfl ?_
    refine ⟨⟨n, 0, n, n, .slice none 0 0, .slice none 0 0⟩, by rw [HR.out]; rfl, ?_, (Below.refl _ _).alloc (Nat.le_refl _) _⟩
    rw [HR.out]
    exact ⟨rfl, rfl, rfl, rfl, HN.out _, HN.out _⟩
  · have hno : rfindN n = allN.findSome? (hitR n) := by unfold rfindN; rw [if_neg h6]
    have HR := Lib.hid hno
    have hcase : n < 0 ∨ 0 ≤ n ∧ 6 ≤ n := by omega
    clear hno h6
    have HA := Lib.hid (all_any (w.alloc (.cells #[.int .i64 0, .int .i64 0, .int .i64 0, .int .i64 0, .slice none 0 0, .slice none 0 0] 34)))
    go_enter Tryd.func12, Tryd.ntmps12
    go_upto_region 1 with fail
    go_cut [12] (fun t wx => t = .bool false ∧ wx = w.alloc (.cells #[.int .i64 0, .int .i64 0, .int .i64 0, .int .i64 0, .slice none 0 0, .slice none 0 0] 34))
    case first =>
      rcases hcase with h | ⟨h, h'⟩
      · go_wp2_with fail
        go_meet
        case rel => exact ⟨rfl, rfl⟩
      · have h'' : decide (n < 6) = false := by simpa using h'
        go_wp2_with fail
        go_meet
        case rel => exact ⟨rfl, rfl⟩
    case rest =>
      obtain ⟨rfl, rfl⟩ := hcut
      go_wp2_with fail
      refine HA.out.mono ?_
      rintro e w1 ⟨v1, rfl, hM1, hb1⟩
      have hst : FindSt n w v1 0 w1 := ⟨(hM1.mono (B2 := w.heap.size) (by simp)).monoB (by simp), (hb1.block _ (by simp)).trans (blk_new rfl), ((Below.refl _ w).alloc (Nat.le_refl _) _).trans (hb1.mono (by simp)), fun x hx => by rw [List.take_zero] at hx; cases hx⟩
      obtain ⟨a1, c1, rfl⟩ := hM1.shape
      rw [allN_len] at hst
      rw [allN_len]
      have K0 := Lib.hid hst
      clear hst hM1 hb1 HA hcase
      go_wp2_with fail
      go_loopw [21] (fun idx wr => ∃ j : Nat, j ≤ 42 ∧ idx = .int .i64 j ∧ FindSt n w (.slice a1 42 c1) j wr) (fun idx _ => 42 - (RowKit.intOf idx).toNat)
      case atStart => exact ⟨0, by omega, rfl, K0.out⟩
      case round =>
        obtain ⟨j, hj, rfl, hst⟩ := hrel
        clear K0
        have HS := Lib.hid hst
        clear hst
        by_cases hjl : j < 42
        · obtain ⟨r, hr⟩ : ∃ r, allN[j]? = some r := ⟨_, List.getElem?_eq_getElem (by rw [allN_len]; exact hjl)⟩
          obtain ⟨hf0, hf1, hl1, hl2⟩ := allN_first r (List.mem_of_getElem? hr)
          obtain ⟨g, c, he, hlc, _, hgl, hcell⟩ := HS.out.ms.cells (by rw [allN_len]; omega)
          rw [allN_len] at hlc
          injection he with h1 h3 h2
          clear h3
          subst h1 h2
          obtain ⟨x, hx, hc⟩ := hcell j r hr
          obtain ⟨ma, mc, em⟩ := hx.ms.shape
          obtain ⟨sa, sc, es⟩ := hx.ss.shape
          have k0 : wr.cell? ⟨g, j * 6, none⟩ = some (.int .i64 r.n) := hc 0 _ (by omega) (by rw [← hx.n]; rfl)
          have k1 : wr.cell? ⟨g, j * 6 + 1, none⟩ = some (.int .i64 r.lvl) := hc 1 _ (by omega) (by rw [← hx.lvl]; rfl)
          have k2 : wr.cell? ⟨g, j * 6 + 2, none⟩ = some (.int .i64 r.first) := hc 2 _ (by omega) (by rw [← hx.first]; rfl)
          have k3 : wr.cell? ⟨g, j * 6 + 3, none⟩ = some (.int .i64 r.root) := hc 3 _ (by omega) (by rw [← hx.root]; rfl)
          have k4 : wr.cell? ⟨g, j * 6 + 4, none⟩ = some (.slice ma r.ms.length mc) := hc 4 _ (by omega) (by rw [← em]; rfl)
          have k5 : wr.cell? ⟨g, j * 6 + 5, none⟩ = some (.slice sa r.ss.length sc) := hc 5 _ (by omega) (by rw [← es]; rfl)
          have b0 : (0 : Int) ≤ (j : Int) := by omega
          have b1 : (j : Int) < 42 := by omega
          obtain ⟨w4, hw4⟩ : ∃ w4, w4 = wr.alloc (.cells #[.int .i64 r.n, .int .i64 r.lvl, .int .i64 r.first, .int .i64 r.root, .slice ma r.ms.length mc, .slice sa r.ss.length sc] 34) := ⟨_, rfl⟩
          have hb4 : Below wr.heap.size wr w4 := by rw [hw4]; exact (Below.refl _ wr).alloc (Nat.le_refl _) _
          have ob : w4.heap[wr.heap.size]? = some (.cells #[.int .i64 r.n, .int .i64 r.lvl, .int .i64 r.first, .int .i64 r.root, .slice ma r.ms.length mc, .slice sa r.ss.length sc] 34 (0, 0)) := by rw [hw4]; exact blk_new rfl
          have hqs : w.heap.size < wr.heap.size := by have := blk_lt HS.out.box; omega
          have hms := hx.ms.below hb4
          have hss := hx.ss.below hb4
          rw [em] at hms
          rw [es] at hss
          have S4 := Lib.hid (HS.out.below hb4); have HMS := Lib.hid hms; have HSS := Lib.hid hss; have OB := Lib.hid ob; have HRJ := Lib.hid hr
          clear hcell hc hx em es hb4 hms hss ob hr
          go_upto_if 31 with fail
          rw [← hw4]
          clear hw4 k0 k1 k2 k3 k4 k5 HS
          generalize wr.heap.size = qb at OB hqs ⊢
          clear hgl
          have k0 := cell_blk_some OB.out (i := 0) rfl
          have k1 := cell_blk_some OB.out (i := 1) rfl
          have k2 := cell_blk_some OB.out (i := 2) rfl
          have k3 := cell_blk_some OB.out (i := 3) rfl
          have k4 := cell_blk_some OB.out (i := 4) rfl
          have k5 := cell_blk_some OB.out (i := 5) rfl
          have BX := Lib.hid S4.out.box
          have p0 := cell_blk_some BX.out (i := 0) rfl
          have p1 := cell_blk_some BX.out (i := 1) rfl
          have p2 := cell_blk_some BX.out (i := 2) rfl
          have p3 := cell_blk_some BX.out (i := 3) rfl
          have p4 := cell_blk_some BX.out (i := 4) rfl
          have p5 := cell_blk_some BX.out (i := 5) rfl
          have z0 := free_blk BX.out (i := 0)
          have z1 := free_blk BX.out (i := 1)
          have z2 := free_blk BX.out (i := 2)
          have z3 := free_blk BX.out (i := 3)
          have z4 := free_blk BX.out (i := 4)
          have z5 := free_blk BX.out (i := 5)
          by_cases hn : r.n = n
          · have q1 : (r.n == n) = true := beq_iff_eq.2 hn
            have HH : Hid (rfindN n = some r) := Lib.hid (by rw [HR.out]; exact findSome_at S4.out.no HRJ.out (by unfold hitR; rw [if_pos hn]))
            clear hn
            go_wp2_with fail
            have b6 := blk_set (i := 5) (blk_set (i := 4) (blk_set (i := 3) (blk_set (i := 2) (blk_set (i := 1) (blk_set (i := 0) BX.out (.int .i64 r.n)) (.int .i64 r.lvl)) (.int .i64 r.first)) (.int .i64 r.root)) (.slice ma r.ms.length mc)) (.slice sa r.ss.length sc)
            refine bodyPost_ret (results_row_tmp rfl _ _ w.heap.size _ _ _ _ rfl b6 Tryd.underlying34 rfl (by kernel_rfl)) rfl ?_
            refine ⟨⟨r.n, r.lvl, r.first, r.root, .slice ma r.ms.length mc, .slice sa r.ss.length sc⟩, by rw [HH.out]; rfl, ?_, ?_⟩
            · rw [HH.out]
              have hW6 := ((((((Fr.refl (fun g => g = w.heap.size) w4).setCell ⟨w.heap.size, 0, none⟩ rfl (.int .i64 r.n)).setCell ⟨w.heap.size, 1, none⟩ rfl (.int .i64 r.lvl)).setCell ⟨w.heap.size, 2, none⟩ rfl (.int .i64 r.first)).setCell ⟨w.heap.size, 3, none⟩ rfl (.int .i64 r.root)).setCell ⟨w.heap.size, 4, none⟩ rfl (.slice ma r.ms.length mc)).setCell ⟨w.heap.size, 5, none⟩ rfl (.slice sa r.ss.length sc)
              exact ⟨rfl, rfl, rfl, rfl, HMS.out.fr' hW6 fun h => HMS.out.off_blk h BX.out, HSS.out.fr' hW6 fun h => HSS.out.off_blk h BX.out⟩
            · exact S4.out.bel.trans ((((((((Fr.refl (fun g => g = w.heap.size) w4).setCell ⟨w.heap.size, 0, none⟩ rfl _).setCell ⟨w.heap.size, 1, none⟩ rfl _).setCell ⟨w.heap.size, 2, none⟩ rfl _).setCell ⟨w.heap.size, 3, none⟩ rfl _).setCell ⟨w.heap.size, 4, none⟩ rfl _).setCell ⟨w.heap.size, 5, none⟩ rfl _).toBelow (B := w.heap.size) S4.out.bel.size fun x hx => by rw [show x = w.heap.size from hx]; exact Nat.le_refl _)
          · have q1 : (r.n == n) = false := beq_eq_false_iff_ne.2 hn
            by_cases hp : r.lvl = 1 ∧ r.first ≤ n ∧ n < r.first + 16 ∧ n < 600
            · obtain ⟨g1, g2, g3, g4⟩ := hp
              have e1 : (r.lvl == 1) = true := beq_iff_eq.2 g1
              have e2 : decide (n < r.first + 16) = true := decide_eq_true g3
              have e3 : decide (r.first ≤ n) = true := decide_eq_true g2
              have e4 : decide (n < 600) = true := decide_eq_true g4
              go_wp2_with fail
              have HRES : Hid (rfindN n = some ⟨n, 0, n, r.root, r.ms ++ [r.n], r.ss ++ [n - r.first]⟩) := Lib.hid (by rw [HR.out]; exact findSome_at S4.out.no HRJ.out (by unfold hitR; rw [if_neg hn, if_pos ⟨g1, g2, g3, g4⟩]))
              have hsubw : IntKind.i64.wrap (n - r.first) = n - r.first := IntWalk.i64_in _ (by omega)
              generalize (r.n == n) = bn
              obtain ⟨w0, hw0⟩ : ∃ w0, w0 = w4.drew := ⟨_, rfl⟩
              have hbel : Below w.heap.size w w0 := by rw [hw0]; exact (show Below w.heap.size w (w4.drewN 1) from below_drewN S4.out.bel 1)
              have HQ0 : Hid (w0.heap[qb]? = some (.cells #[.int .i64 r.n, .int .i64 r.lvl, .int .i64 r.first, .int .i64 r.root, .slice ma r.ms.length mc, .slice sa r.ss.length sc] 34 (0, 0))) := Lib.hid (by rw [hw0]; exact OB.out)
              have HT0 : Hid (w0.heap[w.heap.size]? = some (.cells #[.int .i64 0, .int .i64 0, .int .i64 0, .int .i64 0, .slice none 0 0, .slice none 0 0] 34 (0, 0))) := Lib.hid (by rw [hw0]; exact BX.out)
              have HMR : Hid (RowI w0 w.heap.size (.slice ma r.ms.length mc) r.ms) := Lib.hid (by rw [hw0]; exact HMS.out)
              have HSR : Hid (RowI w0 w.heap.size (.slice sa r.ss.length sc) r.ss) := Lib.hid (by rw [hw0]; exact HSS.out)
              have HBEL := Lib.hid hbel
              have HQN : Hid (¬ qb = w.heap.size) := Lib.hid (by omega)
              obtain ⟨wz, hwz⟩ : ∃ wz, wz = w0.heap.size := ⟨_, rfl⟩
              have HZ0 : Hid (w0.heap.size = wz) := Lib.hid hwz.symm
              have HTZ : Hid (w.heap.size < wz) := Lib.hid (by rw [hwz]; exact blk_lt HT0.out)
              have HMN := Lib.hid (fun h => HMR.out.off_blk h HT0.out)
              have HSN := Lib.hid (fun h => HSR.out.off_blk h HT0.out)
              clear k0 k1 k2 k3 k4 k5 p0 p1 p2 p3 p4 p5 z0 z1 z2 z3 z4 z5 hbel hwz hn e1 e2 e3 e4 S4 OB BX HMS HSS g1
              -- STEPS
              refine wp_region_facts (frame := fun y => ⟨#[.int .i64 n, undef, .pointer (some ⟨w.heap.size, 0, none⟩), y 28, .slice (some ⟨g, 0, none⟩) 42 c1, .int .i64 ↑j, .pointer (some ⟨qb, 0, none⟩), u7, u8, u9, u10, u11, .bool false, u13, u14, u15, u16, u17, .slice (some ⟨g, 0, none⟩) 42 c1, .slice (some ⟨g, 0, none⟩) 42 c1, .int .i64 42, .int .i64 ↑j, .bool true, .int .i64 ↑j, .slice (some ⟨g, 0, none⟩) 42 c1, .int .i64 ↑j, .pointer (some ⟨g, j * 6, none⟩), .agg #[.int .i64 r.n, .int .i64 r.lvl, .int .i64 r.first, .int .i64 r.root, .slice ma r.ms.length mc, .slice sa r.ss.length sc], .pointer (some ⟨qb, 0, none⟩), .int .i64 r.n, .int .i64 n, .bool bn, u32, .pointer (some ⟨qb, 1, none⟩), .int .i64 1, .bool true, .bool true, .int .i64 n, .pointer (some ⟨qb, 2, none⟩), .int .i64 r.first, .bool true, .bool true, .bool true, .int .i64 n, .pointer (some ⟨qb, 2, none⟩), .int .i64 r.first, .int .i64 (r.first + 16), .bool true, .bool true, .bool true, .int .i64 n, .bool true, .bool true, y 0, y 1, y 2, y 3, y 4, y 5, y 6, y 7, y 8, y 9, y 10, y 11, y 12, y 13, y 14, y 15, y 16, y 17, y 18, y 19, y 20, y 21, y 22, y 23, y 24, y 25, y 26, u80, u81], []⟩) (I := fun b _ w2 => Fr (fun g => g = w.heap.size) w0 w2 ∧ (b 27 = false → w2.heap[w.heap.size]? = w0.heap[w.heap.size]?))
                (F := F11 wz qb w.heap.size n r (.slice ma r.ms.length mc) (.slice sa r.ss.length sc)) (cons := C11) (fun k => [u53, u54, u55, u56, u57, u58, u59, u60, u61, u62, u63, u64, u65, u66, u67, u68, u69, u70, u71, u72, u73, u74, u75, u76, u77, u78, u79, undef, u3].getD k undef) (fun _ => 0) (by kernel_rfl) (by kernel_rfl) rfl (by rw [hw0]; exact ⟨Fr.refl _ _, fun _ => rfl⟩) ?_ ?_
              refine ⟨?_, ?_, ?_, ?_, ?_, ?_, ?_, ?_, ?_, ?_, ?_, ?_, ?_, ?_, ?_, ?_, ?_, ?_, ?_, ?_, ?_, ?_, ?_, ?_, ?_, ?_, ?_, ?_, ?_, trivial⟩
              · intro y tag w2 b hb hI hp K hK
                go_simp
                refine hK (.int .i64 n) tag _ w2 rfl hI rfl ?_
                · intro k ok hok hk hp hc hF
                  rcases lt29 (Array.getElem?_eq_some_iff.1 hok).1 with rfl | rfl | rfl | rfl | rfl | rfl | rfl | rfl | rfl | rfl | rfl | rfl | rfl | rfl | rfl | rfl | rfl | rfl | rfl | rfl | rfl | rfl | rfl | rfl | rfl | rfl | rfl | rfl | rfl
                  all_goals first | exact hF | exact (hk rfl).elim | exact ((hc _ List.mem_cons_self).1 rfl).elim | exact ((hc _ List.mem_cons_self).2 (by obtain rfl := Option.some.inj hok; decide)).elim | exact (hp (by obtain rfl := Option.some.inj hok; decide)).elim
              · intro y tag w2 b hb hI hp K hK
                go_simp
                refine hK (.int .i64 n) tag _ w2 rfl hI rfl ?_
                · intro k ok hok hk hp hc hF
                  rcases lt29 (Array.getElem?_eq_some_iff.1 hok).1 with rfl | rfl | rfl | rfl | rfl | rfl | rfl | rfl | rfl | rfl | rfl | rfl | rfl | rfl | rfl | rfl | rfl | rfl | rfl | rfl | rfl | rfl | rfl | rfl | rfl | rfl | rfl | rfl | rfl
                  all_goals first | exact hF | exact (hk rfl).elim | exact ((hc _ List.mem_cons_self).1 rfl).elim | exact ((hc _ List.mem_cons_self).2 (by obtain rfl := Option.some.inj hok; decide)).elim | exact (hp (by obtain rfl := Option.some.inj hok; decide)).elim
              · intro y tag w2 b hb hI hp K hK
                go_simp
                refine hK (.pointer (some ⟨qb, 3, none⟩)) tag _ w2 rfl hI rfl ?_
                · intro k ok hok hk hp hc hF
                  rcases lt29 (Array.getElem?_eq_some_iff.1 hok).1 with rfl | rfl | rfl | rfl | rfl | rfl | rfl | rfl | rfl | rfl | rfl | rfl | rfl | rfl | rfl | rfl | rfl | rfl | rfl | rfl | rfl | rfl | rfl | rfl | rfl | rfl | rfl | rfl | rfl
                  all_goals first | exact hF | exact (hk rfl).elim | exact ((hc _ List.mem_cons_self).1 rfl).elim | exact ((hc _ List.mem_cons_self).2 (by obtain rfl := Option.some.inj hok; decide)).elim | exact (hp (by obtain rfl := Option.some.inj hok; decide)).elim
              · intro y tag w2 b hb hI hp K hK
                have h2 : y 2 = .pointer (some ⟨qb, 3, none⟩) := hp 2 (by decide) (fun c hc => by cases hc)
                go_simp
                refine hK (.pointer (some ⟨qb, 3, none⟩)) tag _ w2 (by simp [updV, h2]) hI rfl ?_
                · intro k ok hok hk hp hc hF
                  rcases lt29 (Array.getElem?_eq_some_iff.1 hok).1 with rfl | rfl | rfl | rfl | rfl | rfl | rfl | rfl | rfl | rfl | rfl | rfl | rfl | rfl | rfl | rfl | rfl | rfl | rfl | rfl | rfl | rfl | rfl | rfl | rfl | rfl | rfl | rfl | rfl
                  all_goals first | exact hF | exact (hk rfl).elim | exact ((hc _ List.mem_cons_self).1 rfl).elim | exact ((hc _ List.mem_cons_self).2 (by obtain rfl := Option.some.inj hok; decide)).elim | exact (hp (by obtain rfl := Option.some.inj hok; decide)).elim
              · intro y tag w2 b hb hI hp K hK
                have h3 : y 3 = .pointer (some ⟨qb, 3, none⟩) := hp 3 (by decide) (fun c hc => by cases hc)
                have c0 : w2.cell? ⟨qb, 3, none⟩ = some (.int .i64 r.root) := cell_blk_some ((hI.1.block qb (blk_lt HQ0.out) HQN.out).trans HQ0.out) rfl
                go_simp
                refine hK (.int .i64 r.root) tag _ w2 (by simp [updV, h3]) hI rfl ?_
                · intro k ok hok hk hp hc hF
                  rcases lt29 (Array.getElem?_eq_some_iff.1 hok).1 with rfl | rfl | rfl | rfl | rfl | rfl | rfl | rfl | rfl | rfl | rfl | rfl | rfl | rfl | rfl | rfl | rfl | rfl | rfl | rfl | rfl | rfl | rfl | rfl | rfl | rfl | rfl | rfl | rfl
                  all_goals first | exact hF | exact (hk rfl).elim | exact ((hc _ List.mem_cons_self).1 rfl).elim | exact ((hc _ List.mem_cons_self).2 (by obtain rfl := Option.some.inj hok; decide)).elim | exact (hp (by obtain rfl := Option.some.inj hok; decide)).elim
              · intro y tag w2 b hb hI hp K hK
                have hz : wz ≤ w2.heap.size := by have := hI.1.size; rw [HZ0.out] at this; exact this
                go_simp
                refine hK (.slice (some ⟨w2.heap.size, 0, none⟩) 0 0) (updT tag w2.heap.size 1) _ (w2.alloc (.cells #[] 3)) rfl (allocI hI HT0.out _) (Hold.new tag 1 w2 _ #[] [] rfl hz) ?_
                · intro k ok hok hk hp hc hF
                  rcases lt29 (Array.getElem?_eq_some_iff.1 hok).1 with rfl | rfl | rfl | rfl | rfl | rfl | rfl | rfl | rfl | rfl | rfl | rfl | rfl | rfl | rfl | rfl | rfl | rfl | rfl | rfl | rfl | rfl | rfl | rfl | rfl | rfl | rfl | rfl | rfl
                  all_goals first | exact Hold.alloc hF _ _ | exact hF | exact (hk rfl).elim | exact ((hc _ List.mem_cons_self).1 rfl).elim | exact ((hc _ List.mem_cons_self).2 (by obtain rfl := Option.some.inj hok; decide)).elim | exact (hp (by obtain rfl := Option.some.inj hok; decide)).elim
              · intro y tag w2 b hb hI hp K hK
                go_simp
                refine hK (.pointer (some ⟨qb, 3, none⟩)) tag _ w2 rfl hI rfl ?_
                · intro k ok hok hk hp hc hF
                  rcases lt29 (Array.getElem?_eq_some_iff.1 hok).1 with rfl | rfl | rfl | rfl | rfl | rfl | rfl | rfl | rfl | rfl | rfl | rfl | rfl | rfl | rfl | rfl | rfl | rfl | rfl | rfl | rfl | rfl | rfl | rfl | rfl | rfl | rfl | rfl | rfl
                  all_goals first | exact hF | exact (hk rfl).elim | exact ((hc _ List.mem_cons_self).1 rfl).elim | exact ((hc _ List.mem_cons_self).2 (by obtain rfl := Option.some.inj hok; decide)).elim | exact (hp (by obtain rfl := Option.some.inj hok; decide)).elim
              · intro y tag w2 b hb hI hp K hK
                have h6 : y 6 = .pointer (some ⟨qb, 3, none⟩) := hp 6 (by decide) (fun c hc => by cases hc)
                go_simp
                refine hK (.pointer (some ⟨qb, 4, none⟩)) tag _ w2 (by simp [updV, h6]) hI rfl ?_
                · intro k ok hok hk hp hc hF
                  rcases lt29 (Array.getElem?_eq_some_iff.1 hok).1 with rfl | rfl | rfl | rfl | rfl | rfl | rfl | rfl | rfl | rfl | rfl | rfl | rfl | rfl | rfl | rfl | rfl | rfl | rfl | rfl | rfl | rfl | rfl | rfl | rfl | rfl | rfl | rfl | rfl
                  all_goals first | exact hF | exact (hk rfl).elim | exact ((hc _ List.mem_cons_self).1 rfl).elim | exact ((hc _ List.mem_cons_self).2 (by obtain rfl := Option.some.inj hok; decide)).elim | exact (hp (by obtain rfl := Option.some.inj hok; decide)).elim
              · intro y tag w2 b hb hI hp K hK
                have h7 : y 7 = .pointer (some ⟨qb, 4, none⟩) := hp 7 (by decide) (fun c hc => by cases hc)
                have c0 : w2.cell? ⟨qb, 4, none⟩ = some (.slice ma r.ms.length mc) := cell_blk_some ((hI.1.block qb (blk_lt HQ0.out) HQN.out).trans HQ0.out) rfl
                go_simp
                refine hK (.slice ma r.ms.length mc) tag _ w2 (by simp [updV, h7]) hI rfl ?_
                · intro k ok hok hk hp hc hF
                  rcases lt29 (Array.getElem?_eq_some_iff.1 hok).1 with rfl | rfl | rfl | rfl | rfl | rfl | rfl | rfl | rfl | rfl | rfl | rfl | rfl | rfl | rfl | rfl | rfl | rfl | rfl | rfl | rfl | rfl | rfl | rfl | rfl | rfl | rfl | rfl | rfl
                  all_goals first | exact hF | exact (hk rfl).elim | exact ((hc _ List.mem_cons_self).1 rfl).elim | exact ((hc _ List.mem_cons_self).2 (by obtain rfl := Option.some.inj hok; decide)).elim | exact (hp (by obtain rfl := Option.some.inj hok; decide)).elim
              · intro y tag w2 b hb hI hp K hK
                have h5 : Hold tag 1 w2 wz (y 5) [] := hp 5 (by decide) (fun c hc => by simpa [C11] using hc)
                have h8 : y 8 = .slice ma r.ms.length mc := hp 8 (by decide) (fun c hc => by cases hc)
                have hz : wz ≤ w2.heap.size := by have := hI.1.size; rw [HZ0.out] at this; exact this
                refine step_append_rows rfl (.tmp 58) (.tmp 61) rfl rfl h5.own h8 (HMR.out.fr' hI.1 HMN.out) (by simp; try omega) hz ?_
                intro v w3 ho hf hv
                refine hK v (updT tag w2.heap.size 1) _ w3 rfl (growI hI hf HT0.out HZ0.out (fun g hg => (h5.own.lt g hg).1)) (h5.grow ho hv) ?_
                · intro k ok hok hk hp hc hF
                  rcases lt29 (Array.getElem?_eq_some_iff.1 hok).1 with rfl | rfl | rfl | rfl | rfl | rfl | rfl | rfl | rfl | rfl | rfl | rfl | rfl | rfl | rfl | rfl | rfl | rfl | rfl | rfl | rfl | rfl | rfl | rfl | rfl | rfl | rfl | rfl | rfl
                  all_goals first | exact Hold.other hF h5 hf (by decide) | exact hF | exact (hk rfl).elim | exact ((hc _ List.mem_cons_self).1 rfl).elim | exact ((hc _ List.mem_cons_self).2 (by obtain rfl := Option.some.inj hok; decide)).elim | exact (hp (by obtain rfl := Option.some.inj hok; decide)).elim
              · intro y tag w2 b hb hI hp K hK
                go_simp
                refine hK (.pointer (some ⟨qb, 0, none⟩)) tag _ w2 rfl hI rfl ?_
                · intro k ok hok hk hp hc hF
                  rcases lt29 (Array.getElem?_eq_some_iff.1 hok).1 with rfl | rfl | rfl | rfl | rfl | rfl | rfl | rfl | rfl | rfl | rfl | rfl | rfl | rfl | rfl | rfl | rfl | rfl | rfl | rfl | rfl | rfl | rfl | rfl | rfl | rfl | rfl | rfl | rfl
                  all_goals first | exact hF | exact (hk rfl).elim | exact ((hc _ List.mem_cons_self).1 rfl).elim | exact ((hc _ List.mem_cons_self).2 (by obtain rfl := Option.some.inj hok; decide)).elim | exact (hp (by obtain rfl := Option.some.inj hok; decide)).elim
              · intro y tag w2 b hb hI hp K hK
                have h10 : y 10 = .pointer (some ⟨qb, 0, none⟩) := hp 10 (by decide) (fun c hc => by cases hc)
                have c0 : w2.cell? ⟨qb, 0, none⟩ = some (.int .i64 r.n) := cell_blk_some ((hI.1.block qb (blk_lt HQ0.out) HQN.out).trans HQ0.out) rfl
                go_simp
                refine hK (.int .i64 r.n) tag _ w2 (by simp [updV, h10]) hI rfl ?_
                · intro k ok hok hk hp hc hF
                  rcases lt29 (Array.getElem?_eq_some_iff.1 hok).1 with rfl | rfl | rfl | rfl | rfl | rfl | rfl | rfl | rfl | rfl | rfl | rfl | rfl | rfl | rfl | rfl | rfl | rfl | rfl | rfl | rfl | rfl | rfl | rfl | rfl | rfl | rfl | rfl | rfl
                  all_goals first | exact hF | exact (hk rfl).elim | exact ((hc _ List.mem_cons_self).1 rfl).elim | exact ((hc _ List.mem_cons_self).2 (by obtain rfl := Option.some.inj hok; decide)).elim | exact (hp (by obtain rfl := Option.some.inj hok; decide)).elim
              · intro y tag w2 b hb hI hp K hK
                have h11 : y 11 = .int .i64 r.n := hp 11 (by decide) (fun c hc => by cases hc)
                have hz : wz ≤ w2.heap.size := by have := hI.1.size; rw [HZ0.out] at this; exact this
                go_simp
                refine hK (.slice (some ⟨w2.heap.size, 0, none⟩) 1 1) (updT tag w2.heap.size 2) _ (w2.alloc (.cells #[.int .i64 r.n] 3)) (by simp [updV, h11]) (allocI hI HT0.out _) (Hold.new tag 2 w2 _ #[.int .i64 r.n] [r.n] rfl hz) ?_
                · intro k ok hok hk hp hc hF
                  rcases lt29 (Array.getElem?_eq_some_iff.1 hok).1 with rfl | rfl | rfl | rfl | rfl | rfl | rfl | rfl | rfl | rfl | rfl | rfl | rfl | rfl | rfl | rfl | rfl | rfl | rfl | rfl | rfl | rfl | rfl | rfl | rfl | rfl | rfl | rfl | rfl
                  all_goals first | exact Hold.alloc hF _ _ | exact hF | exact (hk rfl).elim | exact ((hc _ List.mem_cons_self).1 rfl).elim | exact ((hc _ List.mem_cons_self).2 (by obtain rfl := Option.some.inj hok; decide)).elim | exact (hp (by obtain rfl := Option.some.inj hok; decide)).elim
              · intro y tag w2 b hb hI hp K hK
                have h9 : Hold tag 1 w2 wz (y 9) r.ms := hp 9 (by decide) (fun c hc => by simpa [C11] using hc)
                have h12 : Hold tag 2 w2 wz (y 12) [r.n] := hp 12 (by decide) (fun c hc => by simpa [C11] using hc)
                have hz : wz ≤ w2.heap.size := by have := hI.1.size; rw [HZ0.out] at this; exact this
                refine step_append_rows rfl (.tmp 62) (.tmp 65) rfl rfl h9.own rfl h12.own.row (by simp; try omega) hz ?_
                intro v w3 ho hf hv
                refine hK v (updT tag w2.heap.size 1) _ w3 rfl (growI hI hf HT0.out HZ0.out (fun g hg => (h9.own.lt g hg).1)) (h9.grow ho hv) ?_
                · intro k ok hok hk hp hc hF
                  rcases lt29 (Array.getElem?_eq_some_iff.1 hok).1 with rfl | rfl | rfl | rfl | rfl | rfl | rfl | rfl | rfl | rfl | rfl | rfl | rfl | rfl | rfl | rfl | rfl | rfl | rfl | rfl | rfl | rfl | rfl | rfl | rfl | rfl | rfl | rfl | rfl
                  all_goals first | exact Hold.other hF h9 hf (by decide) | exact hF | exact (hk rfl).elim | exact ((hc _ List.mem_cons_self).1 rfl).elim | exact ((hc _ List.mem_cons_self).2 (by obtain rfl := Option.some.inj hok; decide)).elim | exact (hp (by obtain rfl := Option.some.inj hok; decide)).elim
              · intro y tag w2 b hb hI hp K hK
                have hz : wz ≤ w2.heap.size := by have := hI.1.size; rw [HZ0.out] at this; exact this
                go_simp
                refine hK (.slice (some ⟨w2.heap.size, 0, none⟩) 0 0) (updT tag w2.heap.size 3) _ (w2.alloc (.cells #[] 3)) rfl (allocI hI HT0.out _) (Hold.new tag 3 w2 _ #[] [] rfl hz) ?_
                · intro k ok hok hk hp hc hF
                  rcases lt29 (Array.getElem?_eq_some_iff.1 hok).1 with rfl | rfl | rfl | rfl | rfl | rfl | rfl | rfl | rfl | rfl | rfl | rfl | rfl | rfl | rfl | rfl | rfl | rfl | rfl | rfl | rfl | rfl | rfl | rfl | rfl | rfl | rfl | rfl | rfl
                  all_goals first | exact Hold.alloc hF _ _ | exact hF | exact (hk rfl).elim | exact ((hc _ List.mem_cons_self).1 rfl).elim | exact ((hc _ List.mem_cons_self).2 (by obtain rfl := Option.some.inj hok; decide)).elim | exact (hp (by obtain rfl := Option.some.inj hok; decide)).elim
              · intro y tag w2 b hb hI hp K hK
                go_simp
                refine hK (.pointer (some ⟨qb, 3, none⟩)) tag _ w2 rfl hI rfl ?_
                · intro k ok hok hk hp hc hF
                  rcases lt29 (Array.getElem?_eq_some_iff.1 hok).1 with rfl | rfl | rfl | rfl | rfl | rfl | rfl | rfl | rfl | rfl | rfl | rfl | rfl | rfl | rfl | rfl | rfl | rfl | rfl | rfl | rfl | rfl | rfl | rfl | rfl | rfl | rfl | rfl | rfl
                  all_goals first | exact hF | exact (hk rfl).elim | exact ((hc _ List.mem_cons_self).1 rfl).elim | exact ((hc _ List.mem_cons_self).2 (by obtain rfl := Option.some.inj hok; decide)).elim | exact (hp (by obtain rfl := Option.some.inj hok; decide)).elim
              · intro y tag w2 b hb hI hp K hK
                have h15 : y 15 = .pointer (some ⟨qb, 3, none⟩) := hp 15 (by decide) (fun c hc => by cases hc)
                go_simp
                refine hK (.pointer (some ⟨qb, 5, none⟩)) tag _ w2 (by simp [updV, h15]) hI rfl ?_
                · intro k ok hok hk hp hc hF
                  rcases lt29 (Array.getElem?_eq_some_iff.1 hok).1 with rfl | rfl | rfl | rfl | rfl | rfl | rfl | rfl | rfl | rfl | rfl | rfl | rfl | rfl | rfl | rfl | rfl | rfl | rfl | rfl | rfl | rfl | rfl | rfl | rfl | rfl | rfl | rfl | rfl
                  all_goals first | exact hF | exact (hk rfl).elim | exact ((hc _ List.mem_cons_self).1 rfl).elim | exact ((hc _ List.mem_cons_self).2 (by obtain rfl := Option.some.inj hok; decide)).elim | exact (hp (by obtain rfl := Option.some.inj hok; decide)).elim
              · intro y tag w2 b hb hI hp K hK
                have h16 : y 16 = .pointer (some ⟨qb, 5, none⟩) := hp 16 (by decide) (fun c hc => by cases hc)
                have c0 : w2.cell? ⟨qb, 5, none⟩ = some (.slice sa r.ss.length sc) := cell_blk_some ((hI.1.block qb (blk_lt HQ0.out) HQN.out).trans HQ0.out) rfl
                go_simp
                refine hK (.slice sa r.ss.length sc) tag _ w2 (by simp [updV, h16]) hI rfl ?_
                · intro k ok hok hk hp hc hF
                  rcases lt29 (Array.getElem?_eq_some_iff.1 hok).1 with rfl | rfl | rfl | rfl | rfl | rfl | rfl | rfl | rfl | rfl | rfl | rfl | rfl | rfl | rfl | rfl | rfl | rfl | rfl | rfl | rfl | rfl | rfl | rfl | rfl | rfl | rfl | rfl | rfl
                  all_goals first | exact hF | exact (hk rfl).elim | exact ((hc _ List.mem_cons_self).1 rfl).elim | exact ((hc _ List.mem_cons_self).2 (by obtain rfl := Option.some.inj hok; decide)).elim | exact (hp (by obtain rfl := Option.some.inj hok; decide)).elim
              · intro y tag w2 b hb hI hp K hK
                have h14 : Hold tag 3 w2 wz (y 14) [] := hp 14 (by decide) (fun c hc => by simpa [C11] using hc)
                have h17 : y 17 = .slice sa r.ss.length sc := hp 17 (by decide) (fun c hc => by cases hc)
                have hz : wz ≤ w2.heap.size := by have := hI.1.size; rw [HZ0.out] at this; exact this
                refine step_append_rows rfl (.tmp 67) (.tmp 70) rfl rfl h14.own h17 (HSR.out.fr' hI.1 HSN.out) (by simp; try omega) hz ?_
                intro v w3 ho hf hv
                refine hK v (updT tag w2.heap.size 3) _ w3 rfl (growI hI hf HT0.out HZ0.out (fun g hg => (h14.own.lt g hg).1)) (h14.grow ho hv) ?_
                · intro k ok hok hk hp hc hF
                  rcases lt29 (Array.getElem?_eq_some_iff.1 hok).1 with rfl | rfl | rfl | rfl | rfl | rfl | rfl | rfl | rfl | rfl | rfl | rfl | rfl | rfl | rfl | rfl | rfl | rfl | rfl | rfl | rfl | rfl | rfl | rfl | rfl | rfl | rfl | rfl | rfl
                  all_goals first | exact Hold.other hF h14 hf (by decide) | exact hF | exact (hk rfl).elim | exact ((hc _ List.mem_cons_self).1 rfl).elim | exact ((hc _ List.mem_cons_self).2 (by obtain rfl := Option.some.inj hok; decide)).elim | exact (hp (by obtain rfl := Option.some.inj hok; decide)).elim
              · intro y tag w2 b hb hI hp K hK
                go_simp
                refine hK (.int .i64 n) tag _ w2 rfl hI rfl ?_
                · intro k ok hok hk hp hc hF
                  rcases lt29 (Array.getElem?_eq_some_iff.1 hok).1 with rfl | rfl | rfl | rfl | rfl | rfl | rfl | rfl | rfl | rfl | rfl | rfl | rfl | rfl | rfl | rfl | rfl | rfl | rfl | rfl | rfl | rfl | rfl | rfl | rfl | rfl | rfl | rfl | rfl
                  all_goals first | exact hF | exact (hk rfl).elim | exact ((hc _ List.mem_cons_self).1 rfl).elim | exact ((hc _ List.mem_cons_self).2 (by obtain rfl := Option.some.inj hok; decide)).elim | exact (hp (by obtain rfl := Option.some.inj hok; decide)).elim
              · intro y tag w2 b hb hI hp K hK
                go_simp
                refine hK (.pointer (some ⟨qb, 2, none⟩)) tag _ w2 rfl hI rfl ?_
                · intro k ok hok hk hp hc hF
                  rcases lt29 (Array.getElem?_eq_some_iff.1 hok).1 with rfl | rfl | rfl | rfl | rfl | rfl | rfl | rfl | rfl | rfl | rfl | rfl | rfl | rfl | rfl | rfl | rfl | rfl | rfl | rfl | rfl | rfl | rfl | rfl | rfl | rfl | rfl | rfl | rfl
                  all_goals first | exact hF | exact (hk rfl).elim | exact ((hc _ List.mem_cons_self).1 rfl).elim | exact ((hc _ List.mem_cons_self).2 (by obtain rfl := Option.some.inj hok; decide)).elim | exact (hp (by obtain rfl := Option.some.inj hok; decide)).elim
              · intro y tag w2 b hb hI hp K hK
                have h20 : y 20 = .pointer (some ⟨qb, 2, none⟩) := hp 20 (by decide) (fun c hc => by cases hc)
                have c0 : w2.cell? ⟨qb, 2, none⟩ = some (.int .i64 r.first) := cell_blk_some ((hI.1.block qb (blk_lt HQ0.out) HQN.out).trans HQ0.out) rfl
                go_simp
                refine hK (.int .i64 r.first) tag _ w2 (by simp [updV, h20]) hI rfl ?_
                · intro k ok hok hk hp hc hF
                  rcases lt29 (Array.getElem?_eq_some_iff.1 hok).1 with rfl | rfl | rfl | rfl | rfl | rfl | rfl | rfl | rfl | rfl | rfl | rfl | rfl | rfl | rfl | rfl | rfl | rfl | rfl | rfl | rfl | rfl | rfl | rfl | rfl | rfl | rfl | rfl | rfl
                  all_goals first | exact hF | exact (hk rfl).elim | exact ((hc _ List.mem_cons_self).1 rfl).elim | exact ((hc _ List.mem_cons_self).2 (by obtain rfl := Option.some.inj hok; decide)).elim | exact (hp (by obtain rfl := Option.some.inj hok; decide)).elim
              · intro y tag w2 b hb hI hp K hK
                have h19 : y 19 = .int .i64 n := hp 19 (by decide) (fun c hc => by cases hc)
                have h21 : y 21 = .int .i64 r.first := hp 21 (by decide) (fun c hc => by cases hc)
                go_simp
                refine hK (.int .i64 (n - r.first)) tag _ w2 (by simp [updV, h19, h21]) hI rfl ?_
                · intro k ok hok hk hp hc hF
                  rcases lt29 (Array.getElem?_eq_some_iff.1 hok).1 with rfl | rfl | rfl | rfl | rfl | rfl | rfl | rfl | rfl | rfl | rfl | rfl | rfl | rfl | rfl | rfl | rfl | rfl | rfl | rfl | rfl | rfl | rfl | rfl | rfl | rfl | rfl | rfl | rfl
                  all_goals first | exact hF | exact (hk rfl).elim | exact ((hc _ List.mem_cons_self).1 rfl).elim | exact ((hc _ List.mem_cons_self).2 (by obtain rfl := Option.some.inj hok; decide)).elim | exact (hp (by obtain rfl := Option.some.inj hok; decide)).elim
              · intro y tag w2 b hb hI hp K hK
                have h22 : y 22 = .int .i64 (n - r.first) := hp 22 (by decide) (fun c hc => by cases hc)
                have hz : wz ≤ w2.heap.size := by have := hI.1.size; rw [HZ0.out] at this; exact this
                go_simp
                refine hK (.slice (some ⟨w2.heap.size, 0, none⟩) 1 1) (updT tag w2.heap.size 4) _ (w2.alloc (.cells #[.int .i64 (n - r.first)] 3)) (by simp [updV, h22]) (allocI hI HT0.out _) (Hold.new tag 4 w2 _ #[.int .i64 (n - r.first)] [n - r.first] rfl hz) ?_
                · intro k ok hok hk hp hc hF
                  rcases lt29 (Array.getElem?_eq_some_iff.1 hok).1 with rfl | rfl | rfl | rfl | rfl | rfl | rfl | rfl | rfl | rfl | rfl | rfl | rfl | rfl | rfl | rfl | rfl | rfl | rfl | rfl | rfl | rfl | rfl | rfl | rfl | rfl | rfl | rfl | rfl
                  all_goals first | exact Hold.alloc hF _ _ | exact hF | exact (hk rfl).elim | exact ((hc _ List.mem_cons_self).1 rfl).elim | exact ((hc _ List.mem_cons_self).2 (by obtain rfl := Option.some.inj hok; decide)).elim | exact (hp (by obtain rfl := Option.some.inj hok; decide)).elim
              · intro y tag w2 b hb hI hp K hK
                have h18 : Hold tag 3 w2 wz (y 18) r.ss := hp 18 (by decide) (fun c hc => by simpa [C11] using hc)
                have h23 : Hold tag 4 w2 wz (y 23) [n - r.first] := hp 23 (by decide) (fun c hc => by simpa [C11] using hc)
                have hz : wz ≤ w2.heap.size := by have := hI.1.size; rw [HZ0.out] at this; exact this
                refine step_append_rows rfl (.tmp 71) (.tmp 76) rfl rfl h18.own rfl h23.own.row (by simp; try omega) hz ?_
                intro v w3 ho hf hv
                refine hK v (updT tag w2.heap.size 3) _ w3 rfl (growI hI hf HT0.out HZ0.out (fun g hg => (h18.own.lt g hg).1)) (h18.grow ho hv) ?_
                · intro k ok hok hk hp hc hF
                  rcases lt29 (Array.getElem?_eq_some_iff.1 hok).1 with rfl | rfl | rfl | rfl | rfl | rfl | rfl | rfl | rfl | rfl | rfl | rfl | rfl | rfl | rfl | rfl | rfl | rfl | rfl | rfl | rfl | rfl | rfl | rfl | rfl | rfl | rfl | rfl | rfl
                  all_goals first | exact Hold.other hF h18 hf (by decide) | exact hF | exact (hk rfl).elim | exact ((hc _ List.mem_cons_self).1 rfl).elim | exact ((hc _ List.mem_cons_self).2 (by obtain rfl := Option.some.inj hok; decide)).elim | exact (hp (by obtain rfl := Option.some.inj hok; decide)).elim
              · intro y tag w2 b hb hI hp K hK
                have h4 : y 4 = .int .i64 r.root := hp 4 (by decide) (fun c hc => by cases hc)
                have h13 : Hold tag 1 w2 wz (y 13) (r.ms ++ [r.n]) := hp 13 (by decide) (fun c hc => by cases hc)
                have h24 : Hold tag 3 w2 wz (y 24) (r.ss ++ [n - r.first]) := hp 24 (by decide) (fun c hc => by cases hc)
                obtain ⟨a13, c13, e13⟩ : ∃ a c, y 13 = .slice a (r.ms ++ [r.n]).length c := h13.own.shape
                obtain ⟨a24, c24, e24⟩ : ∃ a c, y 24 = .slice a (r.ss ++ [n - r.first]).length c := h24.own.shape
                rw [List.length_append, List.length_singleton] at e13 e24
                go_simp
                refine hK (.agg #[.int .i64 r.root, .slice a13 (r.ms.length + 1) c13, .slice a24 (r.ss.length + 1) c24]) tag _ w2 (by simp [updV, h4, e13, e24]) hI ⟨a13, c13, a24, c24, e13, e24, rfl⟩ ?_
                · intro k ok hok hk hp hc hF
                  rcases lt29 (Array.getElem?_eq_some_iff.1 hok).1 with rfl | rfl | rfl | rfl | rfl | rfl | rfl | rfl | rfl | rfl | rfl | rfl | rfl | rfl | rfl | rfl | rfl | rfl | rfl | rfl | rfl | rfl | rfl | rfl | rfl | rfl | rfl | rfl | rfl
                  all_goals first | exact hF | exact (hk rfl).elim | exact ((hc _ List.mem_cons_self).1 rfl).elim | exact ((hc _ List.mem_cons_self).2 (by obtain rfl := Option.some.inj hok; decide)).elim | exact (hp (by obtain rfl := Option.some.inj hok; decide)).elim
              · intro y tag w2 b hb hI hp K hK
                have h0 : y 0 = .int .i64 n := hp 0 (by decide) (fun c hc => by cases hc)
                have h1 : y 1 = .int .i64 n := hp 1 (by decide) (fun c hc => by cases hc)
                obtain ⟨a13, c13, a24, c24, e13, e24, h25⟩ : ∃ a13 c13 a24 c24, y 13 = .slice a13 (r.ms.length + 1) c13 ∧ y 24 = .slice a24 (r.ss.length + 1) c24 ∧ y 25 = .agg #[.int .i64 r.root, .slice a13 (r.ms.length + 1) c13, .slice a24 (r.ss.length + 1) c24] := hp 25 (by decide) (fun c hc => by cases hc)
                go_simp
                refine hK (.agg #[.int .i64 n, .int .i64 0, .int .i64 n, .int .i64 r.root, .slice a13 (r.ms.length + 1) c13, .slice a24 (r.ss.length + 1) c24]) tag _ w2 (by simp [updV, h0, h1, h25, e13, e24]) hI ⟨_, _, h25, rfl⟩ ?_
                · intro k ok hok hk hp hc hF
                  rcases lt29 (Array.getElem?_eq_some_iff.1 hok).1 with rfl | rfl | rfl | rfl | rfl | rfl | rfl | rfl | rfl | rfl | rfl | rfl | rfl | rfl | rfl | rfl | rfl | rfl | rfl | rfl | rfl | rfl | rfl | rfl | rfl | rfl | rfl | rfl | rfl
                  all_goals first | exact hF | exact (hk rfl).elim | exact ((hc _ List.mem_cons_self).1 rfl).elim | exact ((hc _ List.mem_cons_self).2 (by obtain rfl := Option.some.inj hok; decide)).elim | exact (hp (by obtain rfl := Option.some.inj hok; decide)).elim
              · intro y tag w2 b hb hI hp K hK
                obtain ⟨a13, c13, a24, c24, e13, e24, h25⟩ : ∃ a13 c13 a24 c24, y 13 = .slice a13 (r.ms.length + 1) c13 ∧ y 24 = .slice a24 (r.ss.length + 1) c24 ∧ y 25 = .agg #[.int .i64 r.root, .slice a13 (r.ms.length + 1) c13, .slice a24 (r.ss.length + 1) c24] := hp 25 (by decide) (fun c hc => by cases hc)
                have h26 : y 26 = .agg #[.int .i64 n, .int .i64 0, .int .i64 n, .int .i64 r.root, .slice a13 (r.ms.length + 1) c13, .slice a24 (r.ss.length + 1) c24] := by
                  obtain ⟨vM, vS, e25, e26⟩ : ∃ vM vS, y 25 = .agg #[.int .i64 r.root, vM, vS] ∧ y 26 = .agg #[.int .i64 n, .int .i64 0, .int .i64 n, .int .i64 r.root, vM, vS] := hp 26 (by decide) (fun c hc => by cases hc)
                  rw [h25] at e25
                  simp only [Value.agg.injEq, Array.mk.injEq, List.cons.injEq, true_and, and_true] at e25
                  rw [e26, e25.1, e25.2]
                have bx := (hI.2 hb).trans HT0.out
                have c0 := cell_blk_some bx (i := 0) rfl
                have c1 := cell_blk_some bx (i := 1) rfl
                have c2 := cell_blk_some bx (i := 2) rfl
                have c3 := cell_blk_some bx (i := 3) rfl
                have c4 := cell_blk_some bx (i := 4) rfl
                have c5 := cell_blk_some bx (i := 5) rfl
                have f0 := free_blk bx (i := 0)
                have f1 := free_blk bx (i := 1)
                have f2 := free_blk bx (i := 2)
                have f3 := free_blk bx (i := 3)
                have f4 := free_blk bx (i := 4)
                have f5 := free_blk bx (i := 5)
                go_simp
                rw [← h26, ← h25, ← e13, ← e24]
                obtain ⟨w6, hw6⟩ : ∃ w6, w6 = ((((((w2.setCell ⟨w.heap.size, 0, none⟩ (.int .i64 n)).setCell ⟨w.heap.size, 1, none⟩ (.int .i64 0)).setCell ⟨w.heap.size, 2, none⟩ (.int .i64 n)).setCell ⟨w.heap.size, 3, none⟩ (.int .i64 r.root)).setCell ⟨w.heap.size, 4, none⟩ (y 13)).setCell ⟨w.heap.size, 5, none⟩ (y 24)) := ⟨_, rfl⟩
                have hB : w6.heap[w.heap.size]? = some (.cells #[.int .i64 n, .int .i64 0, .int .i64 n, .int .i64 r.root, y 13, y 24] 34 (0, 0)) := by rw [hw6]; exact blk_set (i := 5) (blk_set (i := 4) (blk_set (i := 3) (blk_set (i := 2) (blk_set (i := 1) (blk_set (i := 0) bx (.int .i64 n)) (.int .i64 0)) (.int .i64 n)) (.int .i64 r.root)) (y 13)) (y 24)
                have hW6 : Fr (fun g => g = w.heap.size) w2 w6 := by rw [hw6]; exact ((((((Fr.refl (fun g => g = w.heap.size) w2).setCell ⟨w.heap.size, 0, none⟩ rfl (.int .i64 n)).setCell ⟨w.heap.size, 1, none⟩ rfl (.int .i64 0)).setCell ⟨w.heap.size, 2, none⟩ rfl (.int .i64 n)).setCell ⟨w.heap.size, 3, none⟩ rfl (.int .i64 r.root)).setCell ⟨w.heap.size, 4, none⟩ rfl (y 13)).setCell ⟨w.heap.size, 5, none⟩ rfl (y 24)
                rw [← hw6]
                clear hw6 c0 c1 c2 c3 c4 c5 f0 f1 f2 f3 f4 f5 bx
                refine hK undef tag _ w6 rfl ⟨hI.1.trans hW6, fun h => by simp [updB] at h⟩ hB ?_
                · intro k ok hok hk hp hc hF
                  rcases lt29 (Array.getElem?_eq_some_iff.1 hok).1 with rfl | rfl | rfl | rfl | rfl | rfl | rfl | rfl | rfl | rfl | rfl | rfl | rfl | rfl | rfl | rfl | rfl | rfl | rfl | rfl | rfl | rfl | rfl | rfl | rfl | rfl | rfl | rfl | rfl
                  all_goals first | exact Hold.low hF hW6 HTZ.out | exact hF | exact (hk rfl).elim | exact ((hc _ List.mem_cons_self).1 rfl).elim | exact ((hc _ List.mem_cons_self).2 (by obtain rfl := Option.some.inj hok; decide)).elim | exact (hp (by obtain rfl := Option.some.inj hok; decide)).elim
              · intro y tag w2 b hb hI hp K hK
                go_simp
                refine hK (.bool true) tag _ w2 rfl hI rfl ?_
                · intro k ok hok hk hp hc hF
                  rcases lt29 (Array.getElem?_eq_some_iff.1 hok).1 with rfl | rfl | rfl | rfl | rfl | rfl | rfl | rfl | rfl | rfl | rfl | rfl | rfl | rfl | rfl | rfl | rfl | rfl | rfl | rfl | rfl | rfl | rfl | rfl | rfl | rfl | rfl | rfl | rfl
                  all_goals first | exact hF | exact (hk rfl).elim | exact ((hc _ List.mem_cons_self).1 rfl).elim | exact ((hc _ List.mem_cons_self).2 (by obtain rfl := Option.some.inj hok; decide)).elim | exact (hp (by obtain rfl := Option.some.inj hok; decide)).elim
              -- END STEPS
              intro y tag w2 b hb hI hF
              have h13 : Hold tag 1 w2 wz (y 13) (r.ms ++ [r.n]) := hF 13 (by decide) rfl
              have h24 : Hold tag 3 w2 wz (y 24) (r.ss ++ [n - r.first]) := hF 24 (by decide) rfl
              have h27 : w2.heap[w.heap.size]? = _ := hF 27 (by decide) rfl
              have h28 : y 28 = .bool true := hF 28 (by decide) rfl
              have RES : Hid (RFind n w (.returned (.tuple #[.agg #[.int .i64 n, .int .i64 0, .int .i64 n, .int .i64 r.root, y 13, y 24], .bool true])) w2) := Lib.hid ⟨⟨n, 0, n, r.root, y 13, y 24⟩, by rw [HRES.out]; rfl, by
                rw [HRES.out]
                exact ⟨rfl, rfl, rfl, rfl, h13.own.row.mono (Nat.le_of_lt HTZ.out), h24.own.row.mono (Nat.le_of_lt HTZ.out)⟩, HBEL.out.trans (hI.1.toBelow (B := w.heap.size) HBEL.out.size fun x hx => by rw [show x = w.heap.size from hx]; exact Nat.le_refl _)⟩
              have H27 := Lib.hid h27
              dsimp only
              rw [h28]
              clear h13 h24 h27 h28 hF hI hb HRES HBEL HT0 HQ0 HMR HSR HMN HSN HQN
              go_wp2_with fail
              refine bodyPost_ret (results_row_tmp rfl _ _ w.heap.size _ _ _ _ rfl H27.out Tryd.underlying34 rfl (by kernel_rfl)) rfl ?_
              exact RES.out
            · have hmiss : hitR n r = none := by unfold hitR; rw [if_neg hn, if_neg hp]
              have HS5 : Hid (FindSt n w (.slice (some ⟨g, 0, none⟩) 42 c1) (j + 1) w4) := Lib.hid ⟨S4.out.ms, S4.out.box, S4.out.bel, fun x hx => by
                rw [take_at HRJ.out, List.mem_append, List.mem_singleton] at hx
                rcases hx with hx | rfl
                · exact S4.out.no x hx
                · exact hmiss⟩
              have hcs : r.lvl ≠ 1 ∨ (r.lvl = 1 ∧ n < r.first) ∨ (r.lvl = 1 ∧ r.first ≤ n ∧ r.first + 16 ≤ n) ∨ (r.lvl = 1 ∧ r.first ≤ n ∧ n < r.first + 16 ∧ 600 ≤ n) := by omega
              clear hmiss hp hn S4 BX OB HMS HSS p0 p1 p2 p3 p4 p5 z0 z1 z2 z3 z4 z5
              rcases hcs with g1 | ⟨g1, g2⟩ | ⟨g1, g2, g3⟩ | ⟨g1, g2, g3, g4⟩
              focus
                have e1 : (r.lvl == 1) = false := beq_eq_false_iff_ne.2 g1
                go_wp2_with fail
              rotate_left
              focus
                have e1 : (r.lvl == 1) = true := beq_iff_eq.2 g1
                have e2 : decide (r.first ≤ n) = false := by simpa using g2
                go_wp2_with fail
              rotate_left
              focus
                have e1 : (r.lvl == 1) = true := beq_iff_eq.2 g1
                have e2 : decide (r.first ≤ n) = true := by simpa using g2
                have e3 : decide (n < r.first + 16) = false := by simpa using g3
                go_wp2_with fail
              rotate_left
              focus
                have e1 : (r.lvl == 1) = true := beq_iff_eq.2 g1
                have e2 : decide (r.first ≤ n) = true := by simpa using g2
                have e3 : decide (n < r.first + 16) = true := by simpa using g3
                have e4 : decide (n < 600) = false := by simpa using g4
                go_wp2_with fail
              all_goals
                go_roundw
                case rel => exact ⟨j + 1, by omega, by go_num, HS5.out⟩
                case measure => simp only [RowKit.intOf]; omega
        · obtain rfl : j = 42 := by omega
          have hS := HS.out
          have hnone : rfindN n = none := by
            rw [HR.out, List.findSome?_eq_none_iff]
            have := hS.no
            rw [← allN_len, List.take_length] at this
            exact this
          have BX := Lib.hid hS.box
          have p0 := cell_blk_some BX.out (i := 0) rfl
          have p1 := cell_blk_some BX.out (i := 1) rfl
          have p2 := cell_blk_some BX.out (i := 2) rfl
          have p3 := cell_blk_some BX.out (i := 3) rfl
          have p4 := cell_blk_some BX.out (i := 4) rfl
          have p5 := cell_blk_some BX.out (i := 5) rfl
          have z0 := free_blk BX.out (i := 0)
          have z1 := free_blk BX.out (i := 1)
          have z2 := free_blk BX.out (i := 2)
          have z3 := free_blk BX.out (i := 3)
          have z4 := free_blk BX.out (i := 4)
          have z5 := free_blk BX.out (i := 5)
          have HNO := Lib.hid hnone; have HBEL := Lib.hid hS.bel
          clear hS HS hnone HR
          go_wp2_with fail
          have b6 := blk_set (i := 5) (blk_set (i := 4) (blk_set (i := 3) (blk_set (i := 2) (blk_set (i := 1) (blk_set (i := 0) BX.out (.int .i64 0)) (.int .i64 0)) (.int .i64 0)) (.int .i64 0)) (.slice none 0 0)) (.slice none 0 0)
          refine bodyPost_ret (results_row_tmp rfl _ _ w.heap.size _ _ _ _ rfl b6 Tryd.underlying34 rfl (by kernel_rfl)) rfl ?_
          refine ⟨⟨0, 0, 0, 0, .slice none 0 0, .slice none 0 0⟩, by rw [HNO.out]; rfl, by rw [HNO.out]; exact ⟨rfl, rfl, rfl, rfl, HN.out _, HN.out _⟩, ?_⟩
          exact HBEL.out.trans ((((((((Fr.refl (fun g => g = w.heap.size) wr).setCell ⟨w.heap.size, 0, none⟩ rfl _).setCell ⟨w.heap.size, 1, none⟩ rfl _).setCell ⟨w.heap.size, 2, none⟩ rfl _).setCell ⟨w.heap.size, 3, none⟩ rfl _).setCell ⟨w.heap.size, 4, none⟩ rfl _).setCell ⟨w.heap.size, 5, none⟩ rfl _).toBelow (B := w.heap.size) HBEL.out.size fun x hx => by rw [show x = w.heap.size from hx]; exact Nat.le_refl _)
end Go.Proofs.YtklamgijikcnaaaDoor
