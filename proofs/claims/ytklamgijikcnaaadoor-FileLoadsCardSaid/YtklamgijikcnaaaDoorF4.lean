/- Walk of index.To. -/
import Derived.Test.YtklamgijikcnaaaDoorF3
import Derived.Test.YtklamgijikcnaaaDoorInts
import Derived.Deep.DeepCutAuto
namespace Go.Proofs.YtklamgijikcnaaaDoor
open Go.RowKit

theorem findN_bd {n f : Int} {l : Nat} (h : findN n = some (l, f)) : 0 ≤ f ∧ f < 600 ∧ l ≤ rootN f ∧ l ≤ 3 ∧ -1000 ≤ n ∧ n < 600 := by
  have hh : ∀ (L : Nat), hitN n L = true → 0 ≤ -(n + L - 1) ∧ -(n + L - 1) < 600 ∧ L ≤ rootN (-(n + L - 1)) := fun L hL => by
    unfold hitN at hL
    simp only [Bool.and_eq_true, decide_eq_true_eq] at hL
    exact ⟨hL.1.1.1, hL.1.1.2, hL.1.2⟩
  unfold findN at h
  split at h
  · split at h
    · injection h with h; injection h with h1 h2; subst h1; subst h2
      exact ⟨by omega, by omega, Nat.zero_le _, by omega, by omega, by omega⟩
    · cases h
  · split at h
    · rename_i h0 h1
      injection h with h; injection h with e1 e2; subst e1; subst e2
      have := hh 1 h1
      have e : -(n + ((1 : Nat) : Int) - 1) = -n := by omega
      rw [e] at this
      exact ⟨by omega, by omega, this.2.2, by omega, by omega, by omega⟩
    · split at h
      · rename_i h0 _ h1
        injection h with h; injection h with e1 e2; subst e1; subst e2
        have := hh 2 h1
        have e : -(n + ((2 : Nat) : Int) - 1) = -(n + 1) := by omega
        rw [e] at this
        exact ⟨by omega, by omega, this.2.2, by omega, by omega, by omega⟩
      · split at h
        · rename_i h0 _ _ h1
          injection h with h; injection h with e1 e2; subst e1; subst e2
          have := hh 3 h1
          have e : -(n + ((3 : Nat) : Int) - 1) = -(n + 2) := by omega
          rw [e] at this
          exact ⟨by omega, by omega, this.2.2, by omega, by omega, by omega⟩
        · cases h
theorem lvl_of {n f : Int} {l : Nat} (h : findN n = some (l, f)) : lvlN n = l ∧ fstN n = f := by unfold lvlN fstN; rw [h]; exact ⟨rfl, rfl⟩
theorem path_at {n f : Int} {l : Nat} (h : findN n = some (l, f)) {j : Nat} (hj : j < rootN f - l) : (pathN n)[j]? = some (wayN f (rootN f - j)) := by
  unfold pathN
  rw [(lvl_of h).1, (lvl_of h).2, List.getElem?_map, List.getElem?_range hj]; rfl
theorem path_length {n f : Int} {l : Nat} (h : findN n = some (l, f)) : (pathN n).length = rootN f - l := by
  unfold pathN
  rw [(lvl_of h).1, (lvl_of h).2, List.length_map, List.length_range]
theorem take_at {α : Type} {l : List α} {j : Nat} {x : α} (h : l[j]? = some x) : l.take (j + 1) = l.take j ++ [x] := by
  rw [List.take_add_one, h]; rfl

/-- The path's box: its root, its slices; rows of the call's own. -/
structure PathBox (B pb : Nat) (root : Int) (M S : List Int) (vM vS : Value) (w : World) : Prop where
  box : w.heap[pb]? = some (.cells #[.int .i64 root, vM, vS] 119 (0, 0))
  m : OwnI w B vM M
  s : OwnI w B vS S
  ap : ∀ g, vM.ownBlock = some g → vS.ownBlock ≠ some g
theorem PathBox.offM {B pb : Nat} {root : Int} {M S : List Int} {vM vS : Value} {w : World} (h : PathBox B pb root M S vM vS w) : vM.ownBlock ≠ some pb := own_off h.m h.box (by decide)
theorem PathBox.offS {B pb : Nat} {root : Int} {M S : List Int} {vM vS : Value} {w : World} (h : PathBox B pb root M S vM vS w) : vS.ownBlock ≠ some pb := own_off h.s h.box (by decide)
/-- Behind an append to the first slice, and its store. -/
theorem PathBox.pushM {B pb g c : Nat} {root x : Int} {M S : List Int} {vM vS : Value} {w w1 w2 : World} (h : PathBox B pb root M S vM vS w) (h1 : Fr (fun _ => False) w w1) (ho : OwnI w2 B (.slice (some ⟨g, 0, none⟩) (M.length + 1) c) (M ++ [x])) (h2 : Fr (fun y => vM.ownBlock = some y) w1 w2) (hg : vM.ownBlock = some g ∨ w1.heap.size ≤ g) :
    PathBox B pb root (M ++ [x]) S (.slice (some ⟨g, 0, none⟩) (M.length + 1) c) vS (w2.setCell ⟨pb, 1, none⟩ (.slice (some ⟨g, 0, none⟩) (M.length + 1) c)) := by
  have h12 : Fr (fun y => vM.ownBlock = some y) w w2 := (h1.mono fun _ _ => False.elim).trans h2
  have hbx := (h12.block pb (blk_lt h.box) h.offM).trans h.box
  have hgp : g ≠ pb := by
    rcases hg with hg | hg
    · exact fun e => h.offM (e ▸ hg)
    · have := blk_lt h.box; have := h1.size; omega
  refine ⟨by have := blk_set (i := 1) hbx (.slice (some ⟨g, 0, none⟩) (M.length + 1) c); exact this, own_set ho (fun e => by injection e with e; exact hgp e) _, own_set (own_frame h.s h12 (fun k hk e => h.ap k e hk)) h.offS _, fun k hk => ?_⟩
  have hk' : g = k := by injection hk
  subst hk'
  rcases hg with hg | hg
  · exact h.ap _ hg
  · intro e
    have := (h.s.lt _ e).2; have := h1.size; omega
theorem PathBox.pushS {B pb g c : Nat} {root x : Int} {M S : List Int} {vM vS : Value} {w w1 w2 : World} (h : PathBox B pb root M S vM vS w) (h1 : Fr (fun _ => False) w w1) (ho : OwnI w2 B (.slice (some ⟨g, 0, none⟩) (S.length + 1) c) (S ++ [x])) (h2 : Fr (fun y => vS.ownBlock = some y) w1 w2) (hg : vS.ownBlock = some g ∨ w1.heap.size ≤ g) :
    PathBox B pb root M (S ++ [x]) vM (.slice (some ⟨g, 0, none⟩) (S.length + 1) c) (w2.setCell ⟨pb, 2, none⟩ (.slice (some ⟨g, 0, none⟩) (S.length + 1) c)) := by
  have h12 : Fr (fun y => vS.ownBlock = some y) w w2 := (h1.mono fun _ _ => False.elim).trans h2
  have hbx := (h12.block pb (blk_lt h.box) h.offS).trans h.box
  have hgp : g ≠ pb := by
    rcases hg with hg | hg
    · exact fun e => h.offS (e ▸ hg)
    · have := blk_lt h.box; have := h1.size; omega
  refine ⟨by have := blk_set (i := 2) hbx (.slice (some ⟨g, 0, none⟩) (S.length + 1) c); exact this, own_set (own_frame h.m h12 (fun k hk e => h.ap k hk e)) h.offM _, own_set ho (fun e => by injection e with e; exact hgp e) _, fun k hk e => ?_⟩
  have hk' : g = k := by injection e
  subst hk'
  rcases hg with hg | hg
  · exact h.ap _ hk hg
  · have := (h.m.lt _ hk).2; have := h1.size; omega
/-- What the loop of To has behind i steps of the one row, j of the other. -/
def ToSt (n : Int) (w : World) (pb : Nat) (root : Int) (i j : Nat) (wr : World) : Prop :=
  w.heap.size < pb ∧ wr.heap[w.heap.size]? = some (.cells #[.int .i64 0, .slice none 0 0, .slice none 0 0] 119 (0, 0)) ∧ Below w.heap.size w wr ∧ SpanAt wr ∧ ∃ vM vS, PathBox w.heap.size pb root (((pathN n).take i).map (·.1)) (((pathN n).take j).map (·.2)) vM vS wr
theorem ToSt.store {n : Int} {w wA : World} {pb i j k : Nat} {root : Int} {vM vS u : Value} (hlt : w.heap.size < pb) (h0 : 0 < w.heap.size) (h1 : wA.heap[w.heap.size]? = some (.cells #[.int .i64 0, .slice none 0 0, .slice none 0 0] 119 (0, 0))) (h2 : Below w.heap.size w wA) (h3 : SpanAt wA)
    (h4 : PathBox w.heap.size pb root (((pathN n).take i).map (·.1)) (((pathN n).take j).map (·.2)) vM vS (wA.setCell ⟨pb, k, none⟩ u)) : ToSt n w pb root i j (wA.setCell ⟨pb, k, none⟩ u) :=
  ⟨hlt, blk_set_other h1 (by show w.heap.size ≠ pb; omega) _, h2.setCell (by show w.heap.size ≤ pb; omega) _, h3.fr ((Fr.refl (fun x => x = pb) wA).setCell ⟨pb, k, none⟩ rfl u) (by omega), vM, vS, h4⟩
theorem spanN_bd {f : Int} (_h0 : 0 ≤ f) (_h1 : f < 600) : 0 ≤ spanN (rootN f) ∧ spanN (rootN f) ≤ 600 ∧ (0 < rootN f → 6 ≤ spanN (rootN f)) := by
  unfold rootN
  split
  · exact ⟨by decide, by decide, fun h => by omega⟩
  · split
    · exact ⟨by decide, by decide, fun _ => by decide⟩
    · split
      · exact ⟨by decide, by decide, fun _ => by decide⟩
      · exact ⟨by decide, by decide, fun _ => by decide⟩
theorem mod_bd (i : Int) (h : 0 ≤ i) (l : Nat) : 0 ≤ i % wideN l ∧ i % wideN l ≤ i := by
  have hw := (wideN_bd l).1
  have h1 := Int.emod_add_mul_ediv i (wideN l)
  have h2 : 0 ≤ i / wideN l := Int.ediv_nonneg h (by omega)
  have h3 := Int.mul_nonneg (show 0 ≤ wideN l by omega) h2
  exact ⟨Int.emod_nonneg _ (by omega), by omega⟩
theorem find_ok {n f : Int} {l : Nat} (hn : findN n = some (l, f)) {w : World} (S : SpanAt w) :
    Calls Tryd.prog 50 #[.int .i64 n] w fun e w' => e = .returned (.tuple #[.int .i64 l, .int .i64 f, .bool true]) ∧ ∃ k, w' = w.drewN k := by
  obtain ⟨_, _, _, _, n0, n1⟩ := findN_bd hn
  refine (find_any n (by omega) (by omega) S).mono ?_
  rintro e w1 ⟨a, b, rfl, hab, hk⟩
  obtain ⟨rfl, rfl⟩ := hab l f hn
  exact ⟨by rw [hn]; rfl, hk⟩
def rootV (f : Int) : Int := if rootN f = 0 then f else 6 + rootN f - 1
/-- What To answers. -/
def ToRes (n f : Int) (w : World) (e : Ending) (w' : World) : Prop :=
  ∃ vM vS, e = .returned (.tuple #[.agg #[.int .i64 (rootV f), vM, vS], .int .i64 0]) ∧ OwnI w' w.heap.size vM ((pathN n).map (·.1)) ∧ OwnI w' w.heap.size vS ((pathN n).map (·.2)) ∧ Below w.heap.size w w'
set_option maxHeartbeats 4000000 in
set_option maxRecDepth 100000 in
theorem to_any {n f : Int} {l : Nat} (hn : findN n = some (l, f)) {w : World} (S : SpanAt w) :
    Calls Tryd.prog 57 #[.int .i64 n] w (ToRes n f w) := by
  obtain ⟨f0, f1, hlk, hl3, n0, n1⟩ := findN_bd hn
  have hpl := path_length hn
  have hk3 := rootN_le f
  have HP := Lib.hid (fun (j : Nat) (hj : j < rootN f - l) => path_at hn hj)
  have HPL := Lib.hid hpl
  have HF := Lib.hid (fun (w : World) (S : SpanAt w) => find_ok hn S)
  have HR := Lib.hid (fun (w : World) (S : SpanAt w) => rootOf_any f f0 (by omega) S)
  have HN := Lib.hid hn
  have hsp0 := S.lt
  have SP := Lib.hid S
  clear hn S hpl
  go_enter Tryd.func57, Tryd.ntmps57
  go_wp2_with fail
  refine (HF.out _ (SP.out.alloc _)).mono ?_
  rintro e w1 ⟨rfl, kd, hw1⟩
  have hb1 : Below w.heap.size w w1 := by rw [hw1]; exact below_drewN (below_alloc (Below.refl _ w) (Nat.le_refl _) _) _
  have bp : w1.heap[w.heap.size]? = some (.cells #[.int .i64 0, .slice none 0 0, .slice none 0 0] 119 (0, 0)) := by rw [hw1]; exact blk_new (w := w) rfl
  have S1 := SP.out.fr (S := fun _ => False) ((Fr.below hb1)) id
  have hz1 : w1.heap.size = w.heap.size + 1 := by rw [hw1]; simp
  clear hw1
  have SP1 := Lib.hid S1; have HB1 := Lib.hid hb1; have BP := Lib.hid bp; have HZ := Lib.hid hz1
  clear S1 hb1 bp hz1 SP
  go_wp2_with fail
  refine (HR.out _ SP1.out).mono ?_
  rintro e w2 ⟨rfl, rfl⟩
  have c0 := cell_blk_some BP.out (i := 0) rfl
  have c1 := cell_blk_some BP.out (i := 1) rfl
  have c2 := cell_blk_some BP.out (i := 2) rfl
  have z0 := free_blk (i := 0) BP.out
  have z1 := free_blk (i := 1) BP.out
  have z2 := free_blk (i := 2) BP.out
  have hpl : w.heap.size < w2.heap.size := by rw [HZ.out]; omega
  by_cases hk0 : rootN f = 0
  · have e0 : (((rootN f : Nat) : Int) == 0) = true := by rw [hk0]; rfl
    have hnil : pathN n = [] := List.eq_nil_of_length_eq_zero (by rw [HPL.out]; omega)
    have HK := Lib.hid hk0; have HNL := Lib.hid hnil
    clear hk0 hnil
    go_wp2_with fail
    have b3 := blk_set (i := 2) (blk_set (i := 1) (blk_set (i := 0) BP.out (.int .i64 f)) (.slice none 0 0)) (.slice none 0 0)
    refine bodyPost_ret (results_row_tmp rfl _ _ w.heap.size _ _ _ _ rfl b3 Tryd.underlying119 rfl (by kernel_rfl)) rfl ?_
    refine ⟨_, _, by unfold rootV; rw [if_pos HK.out]; rfl, by rw [HNL.out]; exact IntsAt.nil _ _ _, by rw [HNL.out]; exact IntsAt.nil _ _ _, ?_⟩
    exact ((HB1.out.setCell (Nat.le_refl _) _).setCell (Nat.le_refl _) _).setCell (Nat.le_refl _) _
  · have e0 : (((rootN f : Nat) : Int) == 0) = false := by rw [beq_eq_false_iff_ne]; omega
    have hk5 : ((rootN f : Nat) : Int) < 5 := by omega
    have hk00 : 0 ≤ ((rootN f : Nat) : Int) := by omega
    have hcell := fun o => (SP1.out.alloc o).c (rootN f) (by omega)
    obtain ⟨s0, s1, s2⟩ := spanN_bd f0 f1
    obtain ⟨_, s3⟩ := spanN_root f f0
    go_wp2_with fail
    have hst : ToSt n w w2.heap.size (6 + (rootN f : Int) - 1) 0 0 (w2.alloc (.cells #[.int .i64 (6 + (rootN f : Int) - 1), .slice none 0 0, .slice none 0 0] 119)) :=
      ⟨hpl, blk_old BP.out, below_alloc HB1.out (Nat.le_refl _) _, SP1.out.alloc _, .slice none 0 0, .slice none 0 0, blk_new rfl, IntsAt.nil _ _ _, IntsAt.nil _ _ _, fun g hg => by cases hg⟩
    generalize (w2.alloc (.cells #[.int .i64 (6 + (rootN f : Int) - 1), .slice none 0 0, .slice none 0 0] 119)) = w3 at hst ⊢
    generalize w2.heap.size = pb at hst ⊢
    have ST := Lib.hid hst
    clear hst hcell c0 c1 c2 z0 z1 z2 hpl SP1 HB1 BP HZ HF HR
    go_loopw [10] (fun v wr => ∃ j lv : Nat, lv + j = rootN f ∧ l ≤ lv ∧ v = .int .i64 lv ∧ ToSt n w pb (6 + (rootN f : Int) - 1) j j wr) (fun v _ => (RowKit.intOf v).toNat)
    case atStart => exact ⟨0, rootN f, by omega, hlk, rfl, ST.out⟩
    case round =>
      obtain ⟨j, lv, hlv, hll, rfl, hst⟩ := hrel
      clear ST
      have HS := Lib.hid hst
      have HLV := Lib.hid hlv
      obtain ⟨hlt, hres, hbel, hspan, vM, vS, hbox⟩ := hst
      have hlv3 : lv ≤ 3 := by omega
      have SPr := Lib.hid hspan; have BX := Lib.hid hbox; have RS := Lib.hid hres; have BL := Lib.hid hbel
      clear hspan hres hbel hlv HS
      have hml := List.length_take_le j (pathN n)
      have hm3 : (((pathN n).take j).map (·.1)).length ≤ 3 := by rw [List.length_map]; have := HLV.out; omega
      have hs3 : (((pathN n).take j).map (·.2)).length ≤ 3 := by rw [List.length_map]; have := HLV.out; omega
      obtain ⟨M, hMd⟩ : ∃ M, M = ((pathN n).take j).map (·.1) := ⟨_, rfl⟩
      obtain ⟨N, hNd⟩ : ∃ N, N = ((pathN n).take j).map (·.2) := ⟨_, rfl⟩
      rw [← hMd, ← hNd] at BX hbox
      rw [← hMd] at hm3
      rw [← hNd] at hs3
      have MD := Lib.hid hMd; have ND := Lib.hid hNd
      clear hMd hNd hml
      by_cases hgo : l < lv
      · have hway := HP.out j (by have := HLV.out; omega)
        have e1 : rootN f - j = lv := by have := HLV.out; omega
        rw [e1] at hway
        have HW := Lib.hid hway
        have hwd := Lib.hid (fun w => wide_any lv hlv3 w)
        have hwd1' := fun w => wide_any (lv - 1) (by omega) w
        rw [show (((lv - 1 : Nat)) : Int) = (lv : Int) - 1 by omega] at hwd1'
        have hwd1 := Lib.hid hwd1'
        obtain ⟨wc0, wc1⟩ := wideN_bd (lv - 1)
        clear hwd1'
        obtain ⟨wb0, wb1⟩ := wideN_bd lv
        have hi0 : 0 ≤ f - spanN (rootN f) := by omega
        obtain ⟨mb0, mb1⟩ := mod_bd (f - spanN (rootN f)) hi0 lv
        have hk5 : ((rootN f : Nat) : Int) < 5 := by omega
        have hcell := SPr.out.c (rootN f) (by omega)
        have hb1 := cell_blk_some hbox.box (i := 1) rfl
        have hb2 := cell_blk_some hbox.box (i := 2) rfl
        clear hway e1 hbox
        obtain ⟨A, hA⟩ : ∃ A, A = f - spanN (rootN f) - (f - spanN (rootN f)) % wideN lv := ⟨_, rfl⟩
        have hw1 : (wayN f lv).1 = -(spanN (rootN f) + A) - ((lv : Int) - 1) := by rw [hA]; rfl
        have hw2 : (wayN f lv).2 = (f - spanN (rootN f) - A) / wideN (lv - 1) := by rw [hA]; rfl
        have ha0 : 0 ≤ A := by omega
        have ha1 : A ≤ f - spanN (rootN f) := by omega
        go_upto_region 13 with (go_at_call 68; refine (hwd.out _).mono ?_; rintro e w' ⟨rfl, rfl⟩)
        rw [← hA]
        have HW1 := Lib.hid hw1; have HW2 := Lib.hid hw2
        clear hA hw1 hw2 hwd mb0 mb1
        have hnum := Lib.hid (fun w => number_any (spanN (rootN f) + A) lv (by omega) (by omega) (by omega) w)
        have t1 : IntKind.i64.wrap (spanN (rootN f) + A) = spanN (rootN f) + A := IntWalk.i64_in _ (by omega)
        have F1 : Hid (∀ o, Fr (fun _ => False) w' (w'.drew.alloc o)) := Lib.hid (fun o => (Fr.refl _ w').drew.alloc o)
        have hbA : ∀ o, (w'.alloc o).cell? ⟨pb, 1, none⟩ = some vM := fun o => cell_blk_some (((F1.out o).block pb (blk_lt BX.out.box) id).trans BX.out.box) (i := 1) rfl
        have hcA : ∀ o, (w'.alloc o).cell? ⟨0, rootN f, none⟩ = some (.int .i64 (spanN (rootN f))) := fun o => (SPr.out.fr (F1.out o) id).c (rootN f) (by omega)
        go_cut [] (fun wx => ToSt n w pb (6 + (rootN f : Int) - 1) (j + 1) j wx)
        case first =>
          go_region_law
          (first
            | (go_simp; go_at_call 82; refine (hnum.out _).mono ?_; rintro e w' ⟨rfl, rfl⟩)
            | (refine step_append_ints (m := [-(spanN (rootN f) + A) - ((lv : Int) - 1)]) (by rfl) (.tmp 49) (.tmp 57) (by rfl) (by rfl) (BX.out.m.fr (F1.out _) (fun _ _ => id)) _ 0 1 (by rfl) (news_one (blk_new (by rfl))) (by exact Nat.one_pos) (by simp only [List.length_cons, List.length_nil]; omega) (Nat.le_trans BL.out.size (F1.out _).size) ?_
               intro g cap wA ho1 hf1 hg1 hlt1
               have h12 := ((F1.out _).mono fun _ _ => False.elim).trans hf1
               have spA := SPr.out.fr h12 (fun e => by have := (BX.out.m.lt _ e).1; omega)
               have bxA := (h12.block pb (blk_lt BX.out.box) BX.out.offM).trans BX.out.box
               have kA1 := cell_blk_some (i := 1) bxA rfl
               have kA3 := free_blk (i := 1) bxA
               have BXA := Lib.hid (BX.out.pushM (F1.out _) ho1 hf1 hg1)
               have RSA := Lib.hid ((h12.block w.heap.size (blk_lt RS.out) (fun e => own_off BX.out.m RS.out (by decide) e)).trans RS.out)
               have BLA := Lib.hid (BL.out.trans (h12.toBelow (B := w.heap.size) BL.out.size fun x hx => (BX.out.m.lt _ hx).1))
               have SPA := Lib.hid spA
               clear ho1 hf1 hg1 hlt1 h12 spA bxA
               dsimp only))
          all_goals
            go_wp2_with fail
            go_meet
            case rel =>
              have h4 := BXA.out
              rw [← HW1.out, MD.out, ND.out] at h4
              have e4 : ((pathN n).take j).map (·.1) ++ [(wayN f lv).1] = ((pathN n).take (j + 1)).map (·.1) := by rw [take_at HW.out, List.map_append]; rfl
              rw [e4, ← MD.out] at h4
              exact ToSt.store hlt hsp0 RSA.out BLA.out SPA.out h4
        case rest =>
          clear BX RS BL SPr hcell hb1 hb2 hbA hcA t1 hnum F1 hm3 MD ND hs3
          clear M N
          obtain ⟨_, hres, hbel, hspan, vM, vS, hbox⟩ := hcut
          have SPr := Lib.hid hspan; have BX := Lib.hid hbox; have RS := Lib.hid hres; have BL := Lib.hid hbel
          clear hspan hres hbel
          have hml := List.length_take_le j (pathN n)
          have hs3 : (((pathN n).take j).map (·.2)).length ≤ 3 := by rw [List.length_map]; have := HLV.out; omega
          obtain ⟨M, hMd⟩ : ∃ M, M = ((pathN n).take (j + 1)).map (·.1) := ⟨_, rfl⟩
          obtain ⟨N, hNd⟩ : ∃ N, N = ((pathN n).take j).map (·.2) := ⟨_, rfl⟩
          rw [← hMd, ← hNd] at BX hbox
          rw [← hNd] at hs3
          have MD := Lib.hid hMd; have ND := Lib.hid hNd
          clear hMd hNd hml
          have hb2 := cell_blk_some hbox.box (i := 2) rfl
          clear hbox
          have F1 : Hid (∀ o, Fr (fun _ => False) wc (wc.drew.alloc o)) := Lib.hid (fun o => (Fr.refl _ wc).drew.alloc o)
          have hbA : ∀ o, (wc.alloc o).cell? ⟨pb, 2, none⟩ = some vS := fun o => cell_blk_some (((F1.out o).block pb (blk_lt BX.out.box) id).trans BX.out.box) (i := 2) rfl
          have t1 : IntKind.i64.wrap (f - spanN (rootN f) - A) = f - spanN (rootN f) - A := IntWalk.i64_in _ (by omega)
          have t2 : IntKind.i64.wrap ((lv : Int) - 1) = (lv : Int) - 1 := IntWalk.i64_in _ (by omega)
          have t3 : ¬ wideN (lv - 1) = 0 := by omega
          have t5 : IntKind.i64.wrap ((f - spanN (rootN f) - A).tdiv (wideN (lv - 1))) = (f - spanN (rootN f) - A) / wideN (lv - 1) := by
            rw [Int.tdiv_eq_ediv_of_nonneg (by omega)]
            have h1 := Int.ediv_nonneg (a := f - spanN (rootN f) - A) (b := wideN (lv - 1)) (by omega) (by omega)
            have h2 := Int.ediv_le_self (a := f - spanN (rootN f) - A) (wideN (lv - 1)) (by omega)
            exact IntWalk.i64_in _ (by omega)
          go_wp2_with fail
          go_region_law
          (first
            | (go_simp; go_at_call 68; refine (hwd1.out _).mono ?_; rintro e w' ⟨rfl, rfl⟩)
            | (refine step_append_ints (m := [(f - spanN (rootN f) - A) / wideN (lv - 1)]) (by rfl) (.tmp 61) (.tmp 69) (by rfl) (by rfl) (BX.out.s.fr (F1.out _) (fun _ _ => id)) _ 0 1 (by rfl) (news_one (blk_new (by rfl))) (by exact Nat.one_pos) (by simp only [List.length_cons, List.length_nil]; omega) (Nat.le_trans BL.out.size (F1.out _).size) ?_
               intro g cap wA ho1 hf1 hg1 hlt1
               have h12 := ((F1.out _).mono fun _ _ => False.elim).trans hf1
               have spA := SPr.out.fr h12 (fun e => by have := (BX.out.s.lt _ e).1; omega)
               have bxA := (h12.block pb (blk_lt BX.out.box) BX.out.offS).trans BX.out.box
               have kA1 := cell_blk_some (i := 2) bxA rfl
               have kA3 := free_blk (i := 2) bxA
               have BXA := Lib.hid (BX.out.pushS (F1.out _) ho1 hf1 hg1)
               have RSA := Lib.hid ((h12.block w.heap.size (blk_lt RS.out) (fun e => own_off BX.out.s RS.out (by decide) e)).trans RS.out)
               have BLA := Lib.hid (BL.out.trans (h12.toBelow (B := w.heap.size) BL.out.size fun x hx => (BX.out.s.lt _ hx).1))
               have SPA := Lib.hid spA
               clear ho1 hf1 hg1 hlt1 h12 spA bxA
               dsimp only))
          all_goals
            clear t1 t2 t3 t5
            go_wp2_with fail
            go_roundw
            case rel =>
              have h4 := BXA.out
              rw [← HW2.out, MD.out, ND.out] at h4
              have e4 : ((pathN n).take j).map (·.2) ++ [(wayN f lv).2] = ((pathN n).take (j + 1)).map (·.2) := by rw [take_at HW.out, List.map_append]; rfl
              rw [e4, ← ND.out] at h4
              have hlv := HLV.out
              exact ⟨j + 1, lv - 1, by omega, by omega, by rw [show (((lv - 1 : Nat)) : Int) = (lv : Int) - 1 by omega], ToSt.store hlt hsp0 RSA.out BLA.out SPA.out h4⟩
            case measure => simp [RowKit.intOf]; omega
      · obtain rfl : lv = l := by omega
        obtain ⟨x1, y1, rfl⟩ := hbox.m.shape
        obtain ⟨x2, y2, rfl⟩ := hbox.s.shape
        have hj : j = (pathN n).length := by rw [HPL.out]; have := HLV.out; omega
        have hb0 := cell_blk_some hbox.box (i := 0) rfl
        have hb1 := cell_blk_some hbox.box (i := 1) rfl
        have hb2 := cell_blk_some hbox.box (i := 2) rfl
        have hr0 := cell_blk_some RS.out (i := 0) rfl
        have hr1 := cell_blk_some RS.out (i := 1) rfl
        have hr2 := cell_blk_some RS.out (i := 2) rfl
        have hq0 := free_blk (i := 0) RS.out
        have hq1 := free_blk (i := 1) RS.out
        have hq2 := free_blk (i := 2) RS.out
        have HJ := Lib.hid hj
        clear hj hbox
        go_wp2_with fail
        have b3 := blk_set (i := 2) (blk_set (i := 1) (blk_set (i := 0) RS.out (.int .i64 (6 + (rootN f : Int) - 1))) (.slice x1 M.length y1)) (.slice x2 N.length y2)
        refine bodyPost_ret (results_row_tmp rfl _ _ w.heap.size _ _ _ _ rfl b3 Tryd.underlying119 rfl (by kernel_rfl)) rfl ?_
        have hMM := MD.out; have hNN := ND.out
        rw [HJ.out, List.take_length] at hMM hNN
        refine ⟨.slice x1 M.length y1, .slice x2 N.length y2, ?_, ?_, ?_, ?_⟩
        · have : rootV f = 6 + (rootN f : Int) - 1 := by unfold rootV; rw [if_neg hk0]
          rw [this]; rfl
        · rw [← hMM]
          exact own_set (own_set (own_set BX.out.m (own_off BX.out.m RS.out (by decide)) _) (own_off BX.out.m RS.out (by decide)) _) (own_off BX.out.m RS.out (by decide)) _
        · rw [← hNN]
          exact own_set (own_set (own_set BX.out.s (own_off BX.out.s RS.out (by decide)) _) (own_off BX.out.s RS.out (by decide)) _) (own_off BX.out.s RS.out (by decide)) _
        · exact ((BL.out.setCell (Nat.le_refl _) _).setCell (Nat.le_refl _) _).setCell (Nat.le_refl _) _
end Go.Proofs.YtklamgijikcnaaaDoor
