/- Walk of the reference's Load. -/
/- What Load makes, plainly, is what the reference's Load makes. -/
import Derived.Test.YtklamgijikcnaaaDoorF60
import Derived.Test.YtklamgijikcnaaaDoorVals
import Derived.Test.YtklamgijikcnaaaDoorF43
namespace Go.Proofs.YtklamgijikcnaaaDoor
open Go.RowKit

def RLoadRes (Z : List (Int × List Int)) (l : List Int) (w : World) (e : Ending) (w' : World) : Prop :=
  Below w.heap.size w w' ∧ ((rowOk (rdZ Z) 4 600 l 9 = true ∧ ∃ cs v, e = .returned (.tuple #[.agg cs, .int .i64 0]) ∧ IsMap cs (putE (List.replicate 600 0) (rowE (rdZ Z) 4 600 l 9)) v ∧ PRow w' v (negE (rowE (rdZ Z) 4 600 l 9))) ∨
    (rowOk (rdZ Z) 4 600 l 9 = false ∧ ∃ cs, e = .returned (.tuple #[.agg cs, .int .i64 100]) ∧ cs.size = 601 ∧ (∀ u ∈ cs.toList, u.oneCell' = true)))
theorem rread_one {vb vs : Value} {Z : List (Int × List Int)} {f : Nat} {n a : Int} {cs : Array Value} {D : List Int} {v : Value} {L : List (Int × Int)} {w : World} (h1 : MayRead f n) (h2 : Fits L f) (hm : IsMap cs D v) (hv : PRow w v L) (hz : ZAt w vb vs Z) :
    Calls Tryd.prog 42 #[.agg cs, .int .i64 n, .int .i64 a, vb, vs] w fun e w' => ∃ cs' ok, e = .returned (.tuple #[.agg cs', .bool ok]) ∧ ok = gN (rdZ Z) f n a ∧ cs'.size = 601 ∧ (∀ u ∈ cs'.toList, u.oneCell' = true) ∧ Below w.heap.size w w' ∧ (ok = true → ∃ v', IsMap cs' (putE D (eN (rdZ Z) f n a)) v' ∧ PRow w' v' (L ++ negE (eN (rdZ Z) f n a))) := by
  refine (rread_any f n a cs D v L w h1 h2 hm hv hz).mono ?_
  rintro e w' (⟨hg, cs', v', rfl, hm', hp', hb'⟩ | ⟨hg, cs', rfl, hs', h1', hb'⟩)
  · exact ⟨cs', true, rfl, hg.symm, hm'.size, hm'.all1 hp', hb', fun _ => ⟨v', hm', hp'⟩⟩
  · exact ⟨cs', false, rfl, hg.symm, hs', h1', hb', fun h => by cases h⟩
def rootsV : Array Value := #[.int .i64 0, .int .i64 1, .int .i64 2, .int .i64 3, .int .i64 4, .int .i64 5, .int .i64 (-6), .int .i64 (-23), .int .i64 (-280)]
structure LdBlk (w : World) (cs0 cs : Array Value) (wr : World) : Prop where
  b0 : wr.heap[w.heap.size]? = some (.cells cs0 55 (0, 0))
  b1 : wr.heap[w.heap.size + 1]? = some (.cells Tryd.zeroCells68 68 (0, 0))
  b2 : wr.heap[w.heap.size + 1 + 1]? = some (.cells cs 68 (0, 0))
  b3 : wr.heap[w.heap.size + 1 + 1 + 1]? = some (.cells rootsV 101 (0, 0))
  bel : Below w.heap.size w wr
theorem LdBlk.below {w wr w' : World} {cs0 cs : Array Value} (h : LdBlk w cs0 cs wr) (hb : Below wr.heap.size wr w') : LdBlk w cs0 cs w' :=
  ⟨(hb.block _ (blk_lt h.b0)).trans h.b0, (hb.block _ (blk_lt h.b1)).trans h.b1, (hb.block _ (blk_lt h.b2)).trans h.b2, (hb.block _ (blk_lt h.b3)).trans h.b3, below_call h.bel hb (Nat.le_refl _)⟩
theorem LdBlk.setRow {w wr : World} {cs0 cs : Array Value} (h : LdBlk w cs0 cs wr) (cs' : Array Value) : LdBlk w cs0 cs' (wr.setRow (w.heap.size + 1 + 1) cs') :=
  ⟨(setRow_other _ _ _ _ (by omega)).trans h.b0, (setRow_other _ _ _ _ (by omega)).trans h.b1, setRow_heap _ _ _ _ _ _ h.b2, (setRow_other _ _ _ _ (by omega)).trans h.b3, below_setRow h.bel (by omega) _⟩
structure LdSt (w : World) (cs0 : Array Value) (Z : List (Int × List Int)) (l : List Int) (s : Nat) (wr : World) : Prop where
  st : ∃ cs v, LdBlk w cs0 cs wr ∧ IsMap cs (putE (List.replicate 600 0) (rowE (rdZ Z) 4 600 l s)) v ∧ PRow wr v (negE (rowE (rdZ Z) 4 600 l s))
  ok : rowOk (rdZ Z) 4 600 l s = true
theorem roots_may : ∀ s : Nat, s < 9 → ∃ c, childN 600 s = some c ∧ rootsN[s]? = some c ∧ rootsV[s]? = some (.int .i64 c) ∧ MayRead 4 c := by
  intro s hs
  have h : s = 0 ∨ s = 1 ∨ s = 2 ∨ s = 3 ∨ s = 4 ∨ s = 5 ∨ s = 6 ∨ s = 7 ∨ s = 8 := by omega
  unfold MayRead
  rcases h with rfl | rfl | rfl | rfl | rfl | rfl | rfl | rfl | rfl
  all_goals exact ⟨_, rfl, rfl, rfl, by decide, by decide +kernel⟩
-- VALS
def VL (w : World) (cs5 : Array Value) (c p : Int) (s : Nat) (vb vs : Value) (γ : Array Value × Bool) (k : Nat) : Value :=
  match k with
  | 0 => .agg cs5
  | 1 => .int .i64 s
  | 2 => .pointer (some ⟨w.heap.size + 1 + 1 + 1, s, none⟩)
  | 3 => .int .i64 c
  | 4 => .int .i64 s
  | 5 => .pointer (some ⟨w.heap.size, s, none⟩)
  | 6 => .int .u32 p
  | 7 => .int .i64 p
  | 8 => vb
  | 9 => vs
  | 10 => .tuple #[.agg γ.1, .bool γ.2]
  | 11 => .tuple #[.agg γ.1, .bool γ.2]
  | 12 => .agg γ.1
  | 13 => .bool γ.2
  | 15 => .bool γ.2
  | _ => undef
-- END VALS
theorem VL_same {w : World} {cs5 : Array Value} {c p : Int} {s : Nat} {vb vs : Value} {γ γ' : Array Value × Bool} {q : Nat} (h0 : q ≠ 10) (h1 : q ≠ 11) (h2 : q ≠ 12) (h3 : q ≠ 13) (h5 : q ≠ 15) : VL w cs5 c p s vb vs γ' q = VL w cs5 c p s vb vs γ q := by
  unfold VL
  split <;> first | rfl | (exfalso; omega)
/-- What the read has answered. -/
structure RdAns (w : World) (Z : List (Int × List Int)) (cs0 cs5 : Array Value) (D : List Int) (L : List (Int × Int)) (c p : Int) (γ : Array Value × Bool) (w5 : World) : Prop where
  ok : γ.2 = gN (rdZ Z) 4 c p
  size : γ.1.size = 601
  one : ∀ u ∈ γ.1.toList, u.oneCell' = true
  blk : LdBlk w cs0 cs5 w5
  yes : γ.2 = true → ∃ v', IsMap γ.1 (putE D (eN (rdZ Z) 4 c p)) v' ∧ PRow w5 v' (L ++ negE (eN (rdZ Z) 4 c p))
structure CL (w wr : World) (A : Array Value × Bool → World → Prop) (γ : Array Value × Bool) (b : Nat → Bool) (w2 : World) : Prop where
  fst : b 10 = false → w2 = wr.drew
  snd : b 10 = true → ∃ w5, A γ w5 ∧ w2 = if b 14 then w5.setRow (w.heap.size + 1 + 1) γ.1 else w5
theorem CL.other {w wr : World} {A : Array Value × Bool → World → Prop} {γ : Array Value × Bool} {b : Nat → Bool} {w2 : World} {i : Nat} (h : CL w wr A γ b w2) (h10 : i ≠ 10) (h14 : i ≠ 14) : CL w wr A γ (updB b i) w2 := by
  have e10 : updB b i 10 = b 10 := by unfold updB; rw [if_neg (fun e => h10 e.symm)]
  have e14 : updB b i 14 = b 14 := by unfold updB; rw [if_neg (fun e => h14 e.symm)]
  exact ⟨by rw [e10]; exact h.fst, by rw [e10, e14]; exact h.snd⟩
set_option maxHeartbeats 8000000 in
set_option maxRecDepth 100000 in
theorem rload_any {vb vs : Value} {Z : List (Int × List Int)} {l : List Int} {w : World} (hz : ZAt w vb vs Z) (hl : l.length = 9) (hb : ∀ p ∈ l, 0 ≤ p ∧ p < 4294967296) :
    Calls Tryd.prog 24 #[.agg (u32s l).toArray, vb, vs] w (RLoadRes Z l w) := by
  have hsz : (u32s l).toArray.size = 9 := by unfold u32s; simp [hl]
  have HSZ := Lib.hid hsz
  have HZ1 := Lib.hid zeroRM_size
  clear hsz
  generalize hcs : (u32s l).toArray = cs at *
  have hB2 : (((w.alloc (.cells cs 55)).alloc (.cells Tryd.zeroCells68 68)).alloc (.cells Tryd.zeroCells68 68)).heap[w.heap.size + 1 + 1]? = some (.cells Tryd.zeroCells68 68 (0, 0)) := blk_new (by simp)
  have HB2 := Lib.hid hB2
  clear hB2
  go_enter Tryd.func24, Tryd.ntmps24
  go_wp2_with (refine wpList_store_row rfl 68 _ _ rfl (w.heap.size + 1 + 1) _ rfl rfl 68 _ HB2.out (by rw [HZ1.out]; kernel_rfl) rfl (all_one (zeroRM_is.one rfl)) ?_)
  obtain ⟨w3, hw3⟩ : ∃ w3, w3 = (((((w.alloc (.cells cs 55)).alloc (.cells Tryd.zeroCells68 68)).alloc (.cells Tryd.zeroCells68 68)).setRow (w.heap.size + 1 + 1) Tryd.zeroCells68).alloc (.cells rootsV 101)) := ⟨_, rfl⟩
  have ST : Hid (LdSt w cs Z l 0 w3) := Lib.hid (by
    have hr : ∀ X : World, rowE (rdZ Z) 4 600 l 0 = [] := fun _ => rfl
    refine ⟨⟨Tryd.zeroCells68, .slice none 0 0, ⟨?_, ?_, ?_, ?_, ?_⟩, zeroRM_is, PRow.nil _⟩, rfl⟩
    · rw [hw3]; exact blk_old ((setRow_other _ _ _ _ (by omega)).trans (blk_old (blk_old (blk_new rfl))))
    · rw [hw3]; exact blk_old ((setRow_other _ _ _ _ (by omega)).trans (blk_old (blk_new (by simp))))
    · rw [hw3]; exact blk_old (setRow_heap _ _ _ _ _ _ HB2.out)
    · rw [hw3]; exact blk_new (by rw [size_setRow]; simp)
    · rw [hw3]; exact (below_setRow ((((Below.refl _ w).alloc (Nat.le_refl _) _).alloc (by simp) _).alloc (by simp; omega) _) (by omega) _).alloc (by rw [size_setRow]; simp; omega) _)
  have HSZ4 := Lib.hid (show w3.heap.size = w.heap.size + 4 by rw [hw3]; simp)
  rw [← show rootsV = #[.int .i64 0, .int .i64 1, .int .i64 2, .int .i64 3, .int .i64 4, .int .i64 5, .int .i64 (-6), .int .i64 (-23), .int .i64 (-280)] from rfl]
  rw [← hw3]
  clear hw3 HB2
  have HL := Lib.hid hl; have HB := Lib.hid hb; have HZA := Lib.hid hz
  have HAT : Hid (∀ s : Nat, s < 9 → ∃ p, l[s]? = some p ∧ cs[s]? = some (.int .u32 p)) := Lib.hid fun s hs => by
    refine ⟨_, List.getElem?_eq_getElem (by omega), ?_⟩
    rw [← hcs]
    unfold u32s
    rw [List.getElem?_toArray, List.getElem?_map, List.getElem?_eq_getElem (by omega)]
    rfl
  clear hl hb hz hcs
  go_loopw [10] (fun i wr => ∃ s : Nat, s ≤ 9 ∧ i = .int .i64 s ∧ LdSt w cs Z l s wr) (fun i _ => 9 - (RowKit.intOf i).toNat)
  case atStart => exact ⟨0, by omega, rfl, ST.out⟩
  case round =>
    obtain ⟨s, hs, rfl, hst⟩ := hrel
    have HS := Lib.hid hst
    clear hst ST
    by_cases hs9 : s < 9
    · obtain ⟨p, hp, hcp⟩ := HAT.out s hs9
      obtain ⟨hp0, hp1⟩ := HB.out p (List.mem_of_getElem? hp)
      obtain ⟨cs5, v5, hbk, hm5, hp5⟩ := HS.out.st
      have c0 := cell_blk_some hbk.b0 hcp
      have hgd : l.getD s 0 = p := by rw [List.getD_eq_getElem?_getD, hp]; rfl
      have HGD := Lib.hid hgd
      have b0 : (0 : Int) ≤ (s : Int) := by omega
      have b1 : (s : Int) < 9 := by omega
      have hok := rowOk_succ (rdZ Z) 4 600 l s
      have hrw := rowE_succ (rdZ Z) 4 600 l s
      have HOK := Lib.hid hok; have HRW := Lib.hid hrw
      clear hgd hcp hp hok hrw
      by_cases e : p = 0
      · have S1 : Hid (LdSt w cs Z l (s + 1) wr) := Lib.hid (by
          have he : eS (rdZ Z) 4 600 l s = [] := by unfold eS; rw [HGD.out, if_pos e]
          have ho : okS (rdZ Z) 4 600 l s = true := by unfold okS; rw [HGD.out, decide_eq_true e]; rfl
          refine ⟨⟨cs5, v5, hbk, ?_, ?_⟩, ?_⟩
          · rw [HRW.out, he, List.append_nil]; exact hm5
          · rw [HRW.out, he, List.append_nil]; exact hp5
          · rw [HOK.out, ho, HS.out.ok]; rfl)
        subst e
        clear hbk hm5 hp5 HS
        go_wp2_with fail
        go_roundw
        case rel => exact ⟨s + 1, by omega, by go_num, S1.out⟩
        case measure => simp only [RowKit.intOf]; omega
      · obtain ⟨c, hc, hcr, hcv, hmay⟩ := roots_may s hs9
        have e1 : (p == 0) = false := by simp [e]
        have HE := Lib.hid e
        have HES : Hid (eS (rdZ Z) 4 600 l s = eN (rdZ Z) 4 c p) := Lib.hid (by unfold eS; rw [HGD.out, if_neg HE.out, hc])
        have HOS : Hid (okS (rdZ Z) 4 600 l s = gN (rdZ Z) 4 c p) := Lib.hid (by unfold okS; rw [HGD.out, decide_eq_false HE.out, hc]; rfl)
        have hfit : Fits (negE (rowE (rdZ Z) 4 600 l s)) 4 := by
          unfold Fits
          have h2 := rowE_cap (rdZ Z) 4 600 l s
          have h3 : s * capE 4 ≤ 8 * capE 4 := Nat.mul_le_mul_right _ (by omega)
          have h4 : capE 4 = 4369 := rfl
          omega
        have hbd := hbk.below (Below.refl _ wr).drew
        have HR := Lib.hid (rread_one (a := p) hmay hfit hm5 (hp5.below (Below.refl _ wr).drew) (HZA.out.below hbd.bel))
        have HBD := Lib.hid hbd
        have HM5 := Lib.hid hm5.size
        have c0' : wr.drew.cell? ⟨w.heap.size, s, none⟩ = some (.int .u32 p) := c0
        have c3 := cell_blk_some hbk.b3 hcv
        have c3' : wr.drew.cell? ⟨w.heap.size + 1 + 1 + 1, s, none⟩ = some (.int .i64 c) := c3
        have OK4 := Lib.hid HS.out.ok
        clear hbk hm5 hp5 HS hc hcr hcv hmay hfit hbd e
        go_wp2_with fail
        refine wp_region_ghost (frame := fun y => ⟨#[.agg cs, vb, vs, .pointer (some ⟨w.heap.size, 0, none⟩), undef, undef, .pointer (some ⟨w.heap.size + 1, 0, none⟩), u7, .pointer (some ⟨w.heap.size + 1 + 1, 0, none⟩), .pointer (some ⟨w.heap.size + 1 + 1 + 1, 0, none⟩), .int .i64 s, y 15, .agg Tryd.zeroCells68, .agg rootsV, .int .i64 s, .bool true, u16, u17, .int .i64 s, .pointer (some ⟨w.heap.size, s, none⟩), .int .u32 p, .bool false, y 11, y 0, y 1, y 2, y 3, y 4, y 5, y 6, y 7, y 8, y 9, y 10, y 12, y 13, u36, u37, u38, undef], []⟩)
          (V := VL w cs5 c p s vb vs) (C := CL w wr (RdAns w Z cs cs5 (putE (List.replicate 600 0) (rowE (rdZ Z) 4 600 l s)) (negE (rowE (rdZ Z) 4 600 l s)) c p)) (#[], false) (fun k => [u23, u24, u25, u26, u27, u28, u29, u30, u31, u32, u33, u22, u34, u35, undef, .bool false].getD k undef) (by kernel_rfl) (by kernel_rfl) rfl ⟨fun _ => rfl, fun h => by cases h⟩ ?_ ?_
        · refine ⟨?_, ?_, ?_, ?_, ?_, ?_, ?_, ?_, ?_, ?_, ?_, ?_, ?_, ?_, ?_, ?_, trivial⟩
-- STEPS
          · intro γ y w2 b hb hp hcl hC hV K hK
            have h10 : b 10 = false := by
              cases hq : b 10 with
              | false => rfl
              | true =>
                have q0 := hcl 10 _ rfl hq 0 (by decide)
                rw [hb] at q0; cases q0
            obtain rfl := hC.fst h10
            refine if_pos_wanted rfl ?_
            refine wp_load_row 68 _ rfl (w.heap.size + 1 + 1) rfl 68 _ _ _ HBD.out.b2 Tryd.underlying68 rfl (by rw [HM5.out]; kernel_rfl) ?_
            exact hK γ _ _ rfl (fun _ _ => rfl) (hC.other (by decide) (by decide))
          · intro γ y w2 b hb hp hcl hC hV K hK
            go_simp
            exact hK γ _ _ rfl (fun _ _ => rfl) (hC.other (by decide) (by decide))
          · intro γ y w2 b hb hp hcl hC hV K hK
            have h1 : y 1 = .int .i64 s := hV 1 (hp 1 (by decide))
            go_simp
            exact hK γ _ _ (by simp [updV, VL, h1]) (fun _ _ => rfl) (hC.other (by decide) (by decide))
          · intro γ y w2 b hb hp hcl hC hV K hK
            have h2 : y 2 = .pointer (some ⟨w.heap.size + 1 + 1 + 1, s, none⟩) := hV 2 (hp 2 (by decide))
            have h10 : b 10 = false := by
              cases hq : b 10 with
              | false => rfl
              | true =>
                have q3 := hcl 10 _ rfl hq 3 (by decide)
                rw [hb] at q3; cases q3
            obtain rfl := hC.fst h10
            go_simp
            exact hK γ _ _ (by simp [updV, VL, h2]) (fun _ _ => rfl) (hC.other (by decide) (by decide))
          · intro γ y w2 b hb hp hcl hC hV K hK
            go_simp
            exact hK γ _ _ rfl (fun _ _ => rfl) (hC.other (by decide) (by decide))
          · intro γ y w2 b hb hp hcl hC hV K hK
            have h4 : y 4 = .int .i64 s := hV 4 (hp 4 (by decide))
            go_simp
            exact hK γ _ _ (by simp [updV, VL, h4]) (fun _ _ => rfl) (hC.other (by decide) (by decide))
          · intro γ y w2 b hb hp hcl hC hV K hK
            have h5 : y 5 = .pointer (some ⟨w.heap.size, s, none⟩) := hV 5 (hp 5 (by decide))
            have h10 : b 10 = false := by
              cases hq : b 10 with
              | false => rfl
              | true =>
                have q7 := hcl 10 _ rfl hq 7 (by decide)
                have q6 := hcl 7 _ rfl q7 6 (by decide)
                rw [hb] at q6; cases q6
            obtain rfl := hC.fst h10
            go_simp
            exact hK γ _ _ (by simp [updV, VL, h5]) (fun _ _ => rfl) (hC.other (by decide) (by decide))
          · intro γ y w2 b hb hp hcl hC hV K hK
            have h6 : y 6 = .int .u32 p := hV 6 (hp 6 (by decide))
            go_simp
            exact hK γ _ _ (by simp [updV, VL, h6]; exact IntWalk.i64_in p (by omega)) (fun _ _ => rfl) (hC.other (by decide) (by decide))
          · intro γ y w2 b hb hp hcl hC hV K hK
            go_simp
            exact hK γ _ _ rfl (fun _ _ => rfl) (hC.other (by decide) (by decide))
          · intro γ y w2 b hb hp hcl hC hV K hK
            go_simp
            exact hK γ _ _ rfl (fun _ _ => rfl) (hC.other (by decide) (by decide))
          · intro γ y w2 b hb hp hcl hC hV K hK
            have h0 : y 0 = .agg cs5 := hV 0 (hp 0 (by decide))
            have h3 : y 3 = .int .i64 c := hV 3 (hp 3 (by decide))
            have h7 : y 7 = .int .i64 p := hV 7 (hp 7 (by decide))
            have h8 : y 8 = vb := hV 8 (hp 8 (by decide))
            have h9 : y 9 = vs := hV 9 (hp 9 (by decide))
            obtain rfl := hC.fst hb
            go_simp
            go_at_call 42
            refine HR.out.mono ?_
            rintro e w5 ⟨cs6, ok, rfl, hok6, hz6, h16, hb6, hyes⟩
            refine hK (cs6, ok) _ _ (by simp [updV, VL, h0, h3, h7, h8, h9]) (fun q hq => ?_) ⟨(fun h => by simp [updB] at h), fun _ => ⟨w5, ⟨hok6, hz6, h16, HBD.out.below hb6, hyes⟩, ?_⟩⟩
            · have n10 : q ≠ 10 := fun e => by rw [e, hb] at hq; cases hq
              have n11 : q ≠ 11 := fun e => by subst e; have := hcl 11 _ rfl hq 10 (by decide); rw [hb] at this; cases this
              have n12 : q ≠ 12 := fun e => by subst e; have := hcl 11 _ rfl (hcl 12 _ rfl hq 11 (by decide)) 10 (by decide); rw [hb] at this; cases this
              have n13 : q ≠ 13 := fun e => by subst e; have := hcl 11 _ rfl (hcl 13 _ rfl hq 11 (by decide)) 10 (by decide); rw [hb] at this; cases this
              have n15 : q ≠ 15 := fun e => by subst e; have := hcl 15 _ rfl hq 10 (by decide); rw [hb] at this; cases this
              exact VL_same n10 n11 n12 n13 n15
            · have h14 : updB b 10 14 = false := by
                show b 14 = false
                cases hq : b 14 with
                | false => rfl
                | true => have := hcl 14 _ rfl hq 10 (by decide); rw [hb] at this; cases this
              rw [h14]; rfl
          · intro γ y w2 b hb hp hcl hC hV K hK
            have h10 : y 10 = .tuple #[.agg γ.1, .bool γ.2] := hV 10 (hp 10 (by decide))
            go_simp
            exact hK γ _ _ (by simp [updV, VL, h10]) (fun _ _ => rfl) (hC.other (by decide) (by decide))
          · intro γ y w2 b hb hp hcl hC hV K hK
            have h11 : y 11 = .tuple #[.agg γ.1, .bool γ.2] := hV 11 (hp 11 (by decide))
            go_simp
            exact hK γ _ _ (by simp [updV, VL, h11]) (fun _ _ => rfl) (hC.other (by decide) (by decide))
          · intro γ y w2 b hb hp hcl hC hV K hK
            have h11 : y 11 = .tuple #[.agg γ.1, .bool γ.2] := hV 11 (hp 11 (by decide))
            go_simp
            exact hK γ _ _ (by simp [updV, VL, h11]) (fun _ _ => rfl) (hC.other (by decide) (by decide))
          · intro γ y w2 b hb hp hcl hC hV K hK
            have h12 : y 12 = .agg γ.1 := hV 12 (hp 12 (by decide))
            have h10 := hp 10 (by decide)
            obtain ⟨w5, hro, hw⟩ := hC.snd h10
            rw [hb] at hw
            obtain rfl : w2 = w5 := hw
            refine if_pos_wanted rfl ?_
            refine wp_store_row 68 _ _ rfl (w.heap.size + 1 + 1) _ rfl h12 68 _ hro.blk.b2 (by rw [hro.size]; kernel_rfl) (by rw [HM5.out, hro.size]) (all_one hro.one) ?_
            exact hK γ _ _ rfl (fun _ _ => rfl) ⟨(fun h => by rw [show updB b 14 10 = b 10 from rfl, h10] at h; cases h), fun _ => ⟨w2, hro, by rw [show updB b 14 14 = true from rfl]; rfl⟩⟩
          · intro γ y w2 b hb hp hcl hC hV K hK
            have h13 : y 13 = .bool γ.2 := hV 13 (hp 13 (by decide))
            go_simp
            exact hK γ _ _ (by simp [updV, VL, h13]) (fun _ _ => rfl) (hC.other (by decide) (by decide))
          -- END STEPS
        · rintro γ y w9 b hall hV hC
          have h15 : y 15 = .bool γ.2 := hV 15 (by decide)
          obtain ⟨w5, hro, hw⟩ := hC.snd (hall 10 (by decide))
          rw [hall 14 (by decide)] at hw
          have hw2 : w9 = w5.setRow (w.heap.size + 1 + 1) γ.1 := hw
          clear hw
          subst hw2
          rw [h15]
          obtain ⟨cs6, ok⟩ := γ
          obtain ⟨hok, hsz, hone, hblk, hyes⟩ := hro
          dsimp only at hok hsz hone hblk hyes ⊢
          have S6 := Lib.hid (hblk.setRow cs6)
          have HZ6 := Lib.hid hsz
          have H6 := Lib.hid hone
          cases ok with
          | false =>
            have HGF : Hid (rowOk (rdZ Z) 4 600 l 9 = false) := Lib.hid (rowOk_bad (rdZ Z) hs9 (by rw [HOS.out, ← hok]))
            clear hok hsz hone hblk hyes HR HBD HM5 c0 c0' c3 c3' hV hC hall h15
            go_wp2_with (refine wpList_store_row rfl 68 _ _ rfl (w.heap.size + 1) _ rfl rfl 68 _ S6.out.b1 (by rw [HZ1.out]; kernel_rfl) rfl (all_one (zeroRM_is.one rfl)) ?_)
            refine bodyPost_ret (results_row_tmp rfl _ _ (w.heap.size + 1) _ _ _ _ rfl (setRow_heap _ _ _ _ _ _ S6.out.b1) Tryd.underlying68 rfl (by rw [HZ1.out]; kernel_rfl)) rfl ?_
            exact ⟨below_setRow S6.out.bel (by omega) _, .inr ⟨HGF.out, _, rfl, HZ1.out, zeroRM_is.one rfl⟩⟩
          | true =>
            have S1 : Hid (LdSt w cs Z l (s + 1) (w5.setRow (w.heap.size + 1 + 1) cs6)) := Lib.hid (by
              obtain ⟨v6, hm6, hp6⟩ := hyes rfl
              refine ⟨⟨cs6, v6, S6.out, ?_, ?_⟩, by rw [HOK.out, HOS.out, ← hok, OK4.out]; rfl⟩
              · rw [HRW.out, HES.out, putE_append]; exact hm6
              · rw [HRW.out, HES.out, negE_append]; exact hp6.setRow hblk.b2 cs6)
            clear hok hsz hone hblk hyes HR HBD HM5 c0 c0' c3 c3' hV hC hall h15
            go_wp2_with fail
            go_roundw
            case rel => exact ⟨s + 1, by omega, by go_num, S1.out⟩
            case measure => simp only [RowKit.intOf]; omega
    · obtain rfl : s = 9 := by omega
      obtain ⟨cs5, v5, hbk, hm5, hp5⟩ := HS.out.st
      have HOKK := Lib.hid HS.out.ok
      have S5 := Lib.hid hbk
      have HZ5 := Lib.hid hm5.size
      have H5 := Lib.hid (hm5.all1 hp5)
      have HM5 := Lib.hid hm5
      have HP5 := Lib.hid (hp5.setRow hbk.b1 cs5)
      clear hbk hm5 hp5 HS
      go_wp2_with (first
        | (refine wpList_load_row rfl 68 _ rfl _ rfl 68 _ _ _ S5.out.b2 Tryd.underlying68 rfl (by rw [HZ5.out]; kernel_rfl) ?_)
        | (refine wpList_store_row rfl 68 _ _ rfl (w.heap.size + 1) _ rfl rfl 68 _ S5.out.b1 (by rw [HZ5.out]; kernel_rfl) (by rw [HZ1.out, HZ5.out]) (all_one H5.out) ?_))
      refine bodyPost_ret (results_row_tmp rfl _ _ (w.heap.size + 1) _ _ _ _ rfl (setRow_heap _ _ _ _ _ _ S5.out.b1) Tryd.underlying68 rfl (by rw [HZ5.out]; kernel_rfl)) rfl ?_
      exact ⟨below_setRow S5.out.bel (by omega) _, .inl ⟨HOKK.out, _, _, rfl, HM5.out, HP5.out⟩⟩
end Go.Proofs.YtklamgijikcnaaaDoor

namespace Go.Proofs.YtklamgijikcnaaaDoor
open Go.RowKit

/-- All that may be told of beneath a block, in order. -/
def eAll : Nat → Int → List Int
  | 0, _ => []
  | f + 1, n => if 0 ≤ n then [n] else ((List.range 16).flatMap fun s => match childN n s with
    | none => []
    | some c => eAll f c) ++ [n]
def rowAll (f : Nat) (n : Int) (k : Nat) : List Int := (List.range k).flatMap fun s => match childN n s with
  | none => []
  | some c => eAll f c
theorem flatMap_sub {α β : Type} (g h : α → List β) : ∀ (l : List α), (∀ a ∈ l, (g a).Sublist (h a)) → (l.flatMap g).Sublist (l.flatMap h)
  | [], _ => List.Sublist.refl _
  | a :: l, H => by
    rw [List.flatMap_cons, List.flatMap_cons]
    exact (H a List.mem_cons_self).append (flatMap_sub g h l fun x hx => H x (List.mem_cons_of_mem _ hx))
theorem map_flatMap' {α β γ : Type} (f : β → γ) (g : α → List β) : ∀ (l : List α), (l.flatMap g).map f = l.flatMap fun a => (g a).map f
  | [] => rfl
  | a :: l => by rw [List.flatMap_cons, List.flatMap_cons, List.map_append, map_flatMap' f g l]
theorem eN_sub (rd : Int → Option (List Int)) : ∀ (f : Nat) (n a : Int), ((eN rd f n a).map (·.1)).Sublist (eAll f n)
  | 0, _, _ => List.Sublist.refl _
  | f + 1, n, a => by
    by_cases h : 0 ≤ n
    · rw [eN_data rd h]
      unfold eAll
      rw [if_pos h]
      exact List.Sublist.refl _
    · unfold eAll
      rw [if_neg h]
      cases hr : rd a with
      | none =>
        unfold eN
        rw [if_neg h, hr]
        exact (List.nil_sublist _).append (List.Sublist.refl [n])
      | some bs =>
        rw [eN_meta rd (by omega) hr, List.map_append]
        refine List.Sublist.append ?_ (List.Sublist.refl _)
        unfold rowE
        rw [map_flatMap']
        refine flatMap_sub _ _ _ fun s _ => ?_
        unfold eS
        split
        · exact List.nil_sublist _
        · split
          · exact List.nil_sublist _
          · rename_i c hc
            rw [hc]
            exact eN_sub rd f c _
theorem rowE_sub (rd : Int → Option (List Int)) (f : Nat) (n : Int) (l : List Int) (k : Nat) : ((rowE rd f n l k).map (·.1)).Sublist (rowAll f n k) := by
  unfold rowE rowAll
  rw [map_flatMap']
  refine flatMap_sub _ _ _ fun s _ => ?_
  unfold eS
  split
  · exact List.nil_sublist _
  · split
    · exact List.nil_sublist _
    · rename_i c hc
      rw [hc]
      exact eN_sub rd f c _
theorem rowAll_neg : ((rowAll 4 600 9).filter fun n => decide (n < 0)).Nodup := by decide +kernel
theorem negE_nodup (rd : Int → Option (List Int)) (l : List Int) : ((negE (rowE rd 4 600 l 9)).map (·.1)).Nodup := by
  refine List.Nodup.sublist ?_ rowAll_neg
  unfold negE
  have := (rowE_sub rd 4 600 l 9).filter fun n => decide (n < 0)
  rw [List.filter_map] at this
  exact this
theorem getD_put (a : Int → Int) : ∀ (E : List (Int × Int)) (D : List Int), D.length = 600 → (∀ n : Nat, n < 600 → D.getD n 0 = a n) → ∀ n : Nat, n < 600 → (putE D E).getD n 0 = applyE a E n
  | [], D, _, h => h
  | e :: E, D, hl, h => by
    have h1 : applyE a (e :: E) = applyE (setD a e.1 e.2) E := rfl
    have h2 : putE D (e :: E) = putE (if 0 ≤ e.1 then D.set e.1.toNat e.2 else D) E := rfl
    rw [h1, h2]
    refine getD_put (setD a e.1 e.2) E _ (by split <;> simp [hl]) fun n hn => ?_
    by_cases he : 0 ≤ e.1
    · rw [if_pos he, List.getD_eq_getElem?_getD, List.getElem?_set]
      by_cases en : (n : Int) = e.1
      · rw [if_pos (by omega), if_pos (by omega), en, setD_self]; rfl
      · rw [if_neg (by omega), setD_other en, ← h n hn, List.getD_eq_getElem?_getD]
    · rw [if_neg he, setD_other (by omega)]
      exact h n hn
theorem putE_length (E : List (Int × Int)) : ∀ (D : List Int), (putE D E).length = D.length := by
  induction E with
  | nil => exact fun _ => rfl
  | cons e E ih =>
    intro D
    show (putE (if 0 ≤ e.1 then D.set e.1.toNat e.2 else D) E).length = _
    rw [ih]
    split <;> simp
theorem apply_find : ∀ (E : List (Int × Int)) (a : Int → Int) (n : Int), (E.map (·.1)).Nodup → applyE a E n = ((E.find? fun p => p.1 == n).map (·.2)).getD (a n)
  | [], a, n, _ => rfl
  | e :: E, a, n, h => by
    rw [List.map_cons, List.nodup_cons] at h
    have h1 : applyE a (e :: E) = applyE (setD a e.1 e.2) E := rfl
    rw [h1, apply_find E _ n h.2]
    by_cases en : e.1 = n
    · rw [List.find?_eq_none.2 (fun p hp => by
        intro hpn
        have : p.1 = n := by simpa using hpn
        exact h.1 (by rw [en, ← this]; exact List.mem_map.2 ⟨p, hp, rfl⟩))]
      rw [List.find?_cons]
      have : (e.1 == n) = true := by simp [en]
      rw [this, ← en]
      exact setD_self
    · rw [List.find?_cons]
      have : (e.1 == n) = false := by simp [en]
      rw [this, setD_other (fun h => en h.symm)]
theorem apply_neg (n : Int) (hn : n < 0) : ∀ (E : List (Int × Int)) (a : Int → Int), applyE a E n = applyE a (negE E) n
  | [], _ => rfl
  | e :: E, a => by
    have h1 : applyE a (e :: E) = applyE (setD a e.1 e.2) E := rfl
    rw [h1]
    by_cases he : e.1 < 0
    · have h2 : negE (e :: E) = e :: negE E := by unfold negE; rw [List.filter_cons_of_pos (by simpa using he)]
      rw [h2, apply_neg n hn E]; rfl
    · have h2 : negE (e :: E) = negE E := by unfold negE; rw [List.filter_cons_of_neg (by simpa using he)]
      rw [h2, apply_neg n hn E]
      have h3 : ∀ (F : List (Int × Int)) (a b : Int → Int), a n = b n → applyE a F n = applyE b F n := by
        intro F
        induction F with
        | nil => exact fun _ _ h => h
        | cons f F ih =>
          intro a b h
          refine ih _ _ ?_
          show setD a f.1 f.2 n = setD b f.1 f.2 n
          by_cases ef : n = f.1
          · rw [ef, setD_self, setD_self]
          · rw [setD_other ef, setD_other ef, h]
      exact h3 _ _ _ (setD_other (by omega))
/-- The reference's map tells just what the code's does. -/
structure Same (d : Int → Int) (m : MM) (D : List Int) (L : List (Int × Int)) : Prop where
  inv : Inv d m
  len : D.length = 600
  get : rgetN D L = adr d m
theorem same_of {d : Int → Int} {m : MM} {rd : Int → Option (List Int)} {l : List Int} (hI : Inv d m) (h : adr d m = applyE (fun _ => 0) (rowE rd 4 600 l 9)) :
    Same d m (putE (List.replicate 600 0) (rowE rd 4 600 l 9)) (negE (rowE rd 4 600 l 9)) := by
  have hl : (putE (List.replicate 600 0) (rowE rd 4 600 l 9)).length = 600 := by rw [putE_length, List.length_replicate]
  refine ⟨hI, hl, funext fun n => ?_⟩
  unfold rgetN
  by_cases h0 : 0 ≤ n
  · rw [if_pos h0]
    by_cases h6 : n < 600
    · have := getD_put (fun _ => 0) (rowE rd 4 600 l 9) (List.replicate 600 0) List.length_replicate (fun k hk => by rw [List.getD_eq_getElem?_getD, List.getElem?_replicate, if_pos hk]; rfl) n.toNat (by omega)
      rw [this, h, show ((n.toNat : Nat) : Int) = n by omega]
    · rw [List.getD_eq_getElem?_getD, List.getElem?_eq_none (by rw [hl]; omega), adr_data h0]
      by_cases hd : d n = 0
      · rw [hd]; rfl
      · have := (hI.d0 n hd).2; omega
  · rw [if_neg h0, h, apply_neg n (by omega), apply_find _ _ _ (negE_nodup rd l)]
    rfl
theorem keysD_adr (d : Int → Int) (m : MM) : keysD (adr d m) = keysD d := by
  unfold keysD
  refine List.filter_congr fun n hn => ?_
  obtain ⟨i, _, rfl⟩ := List.mem_map.1 hn
  rw [adr_data (by omega)]
theorem manyN_path : ∀ i : Nat, i < 600 → ∀ k ∈ metasN, (k ∈ (pathN (i : Int)).map (·.1)) ↔ (fstN k ≤ i ∧ (i : Int) < fstN k + manyN (lvlN k) (fstN k)) := by decide +kernel
section
variable {d : Int → Int} {m : MM} {D : List Int} {L : List (Int × Int)}
theorem Same.data (h : Same d m D L) (i : Nat) : D.getD i 0 = d i := by
  have := congrFun h.get i
  unfold rgetN at this
  rw [if_pos (by omega), Int.toNat_natCast, adr_data (by omega)] at this
  exact this
theorem Same.covers (h : Same d m D L) {k : Int} (hk : k ∈ metasN) : covN D (lvlN k) (fstN k) = (m k).isSome := by
  obtain ⟨f0, f1, _, _⟩ := meta_fst k hk
  have hb := manyN_bd (lvlN k) (f := fstN k) ⟨f0, f1⟩
  apply Bool.eq_iff_iff.2
  rw [cov h.inv k]
  unfold covN
  rw [List.any_eq_true]
  constructor
  · rintro ⟨j, hj, hd⟩
    rw [List.mem_range] at hj
    rw [decide_eq_true_eq, h.data] at hd
    refine ⟨(fstN k).toNat + j, by omega, hd, (manyN_path _ (by omega) k hk).2 ⟨by omega, by omega⟩⟩
  · rintro ⟨i, hi, hd, hp⟩
    obtain ⟨h1, h2⟩ := (manyN_path i hi k hk).1 hp
    refine ⟨i - (fstN k).toNat, List.mem_range.2 (by omega), ?_⟩
    rw [decide_eq_true_eq, show (fstN k).toNat + (i - (fstN k).toNat) = i by omega, h.data]
    exact hd
theorem Same.metas (h : Same d m D L) : rmetasN D = metasOf m := by
  unfold rmetasN metasOf
  exact List.filter_congr fun k hk => h.covers hk
theorem Same.has (h : Same d m D L) (n : Int) : rhasN D n = hasB d m n := by
  unfold rhasN hasB
  by_cases h0 : 0 ≤ n
  · rw [if_pos h0, h.inv.data h0, show D.getD n.toNat 0 = d n by rw [h.data]; congr 1; omega]
    simp
  · rw [if_neg h0, h.inv.neg (by omega)]
    by_cases hm : n ∈ metasN
    · rw [decide_eq_true hm, h.covers hm]; simp
    · rw [decide_eq_false hm]
      cases hq : m n with
      | none => simp
      | some v => exact absurd (h.inv.j.dom n v hq) hm
theorem Same.places (h : Same d m D L) : placesA (rgetN D L) (rmetasN D) = placesOf d m := by
  rw [h.get, h.metas]
  unfold placesA placesOf placesD placesM
  have hk := keysD_adr d m
  rw [hk]
  have hneg : ∀ k ∈ metasOf m, adr d m k = adrM m k := fun k hk => adr_meta (metasN_neg k (List.mem_filter.1 hk).1).1
  have e1 : (keysD d).map (fun n => (n, adr d m n)) = (keysD d).map fun n => (n, d n) := List.map_congr_left fun n hn => by rw [adr_data (keysD_range hn).1]
  have e2 : ((metasOf m).filter fun k => decide (adr d m k ≠ 0)) = (metasOf m).filter fun k => decide (adrM m k ≠ 0) := List.filter_congr fun k hk => by rw [hneg k hk]
  have e3 : ((metasOf m).filter fun k => decide (adrM m k ≠ 0)).map (fun k => (k, adr d m k)) = ((metasOf m).filter fun k => decide (adrM m k ≠ 0)).map fun k => (k, adrM m k) := List.map_congr_left fun k hk => by rw [hneg k (List.mem_filter.1 hk).1]
  rw [e1, e2, e3]
theorem Same.root (h : Same d m D L) : rootA (rgetN D L) = rootW d m := by rw [h.get]; rfl
theorem Same.ptrs (h : Same d m D L) (n : Int) : ptrsA (rgetN D L) n = ptrsN d m n := by rw [h.get]; rfl
end
end Go.Proofs.YtklamgijikcnaaaDoor
