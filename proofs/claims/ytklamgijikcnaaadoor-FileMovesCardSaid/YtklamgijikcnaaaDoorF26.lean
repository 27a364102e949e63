/- Walk of the statement FileMoves: it returns true. -/
import Derived.Test.YtklamgijikcnaaaDoorF25
namespace Go.Proofs.YtklamgijikcnaaaDoor
open Go.RowKit

def MSt (W : World) (fb i : Nat) (wr : World) : Prop := (∃ d m F, One W wr fb d m F) ∧ i ≤ 30
/-- Behind the Set: what was, what is; the map that is filled. -/
structure MvSt (W : World) (nb : Nat) (wv pv : Value) (Lw L : List (Int × Int)) (j : Nat) (wr : World) : Prop where
  was : OwnP wr W.heap.size wv Lw
  now : OwnP wr W.heap.size pv L
  mp : MapIs (Value.int .i64) wr nb (mapF (L.take j))
  bel : Below W.heap.size W wr
  low : W.heap.size ≤ nb
theorem OwnP.off_map {w : World} {B b : Nat} {v : Value} {l : List (Int × Int)} {f : Int → Option Value} (h : OwnP w B v l) (hm : MapIs (Value.int .i64) w b f) : ∀ g, v.ownBlock = some g → ¬ g = b := fun g hg e => by
  obtain ⟨es, c, hb, _⟩ := hm
  exact own_off_map h hb (e ▸ hg)
theorem OwnP.off_tag {w : World} {B g : Nat} {v : Value} {l : List (Int × Int)} (h : OwnP w B v l) (ht : Tag w g) : ¬ v.ownBlock = some g := fun e => by
  rcases ht with ⟨es, c, hm⟩ | ⟨cs, t, z, hc, ht⟩
  · exact own_off_map h hm e
  · exact own_off h hc (by rcases ht with rfl | rfl <;> decide) e
theorem One.ownP {W w w' : World} {fb : Nat} {d : Int → Int} {m : MM} {F F' : Nat → Prop} (T : One W w fb d m F) (ha : Aft w w' F F') {B : Nat} {v : Value} {l : List (Int × Int)} (h : OwnP w B v l) : OwnP w' B v l :=
  h.fr ha.fr fun _ hg hx => h.off_tag (T.tag _ hx) hg
theorem MvSt.alloc {W wr : World} {nb : Nat} {wv pv : Value} {Lw L : List (Int × Int)} {j : Nat} (h : MvSt W nb wv pv Lw L j wr) (o : Obj) : MvSt W nb wv pv Lw L j (wr.alloc o) := by
  have hb : Below wr.heap.size wr (wr.alloc o) := (Below.refl _ wr).alloc (Nat.le_refl _) o
  exact ⟨h.was.below hb, h.now.below hb, h.mp.fr (S := fun _ => False) (Fr.below hb) id, below_call h.bel hb (Nat.le_refl _), h.low⟩
theorem MvSt.setNew {W wr : World} {nb : Nat} {wv pv : Value} {Lw L : List (Int × Int)} {j b i : Nat} (h : MvSt W nb wv pv Lw L j wr) {c : Array Value} (hb : wr.heap[b]? = some (.cells c 46 (0, 0))) (hw : ∀ g, wv.ownBlock = some g → g ≠ b) (hp : ∀ g, pv.ownBlock = some g → g ≠ b) (hl : W.heap.size ≤ b) (u : Value) : MvSt W nb wv pv Lw L j (wr.setCell ⟨b, i, none⟩ u) := by
  have hf : Fr (fun x => x = b) wr (wr.setCell ⟨b, i, none⟩ u) := (Fr.refl (fun x => x = b) wr).setCell ⟨b, i, none⟩ rfl u
  exact ⟨h.was.fr hf hw, h.now.fr hf hp, h.mp.fr hf (fun e => by
    obtain ⟨es, cl, hm, _⟩ := h.mp
    rw [e, hb] at hm
    injection hm with hm
    cases hm), h.bel.setCell hl _, h.low⟩

set_option maxHeartbeats 8000000 in
set_option maxRecDepth 100000 in
theorem lawMoves_any (v : Value) (xs : List Int) (at_ addr_ : Int) (W : World) (S : SpanAt W) (hv : ArgI W v xs) :
    Calls Tryd.prog 5 #[v, .int .i64 at_, .int .i64 addr_] W fun e w' => e = .returned (.bool true) ∧ Below W.heap.size W w' := by
  obtain ⟨av, cv, rfl, hxs⟩ := hv
  have HX := Lib.hid hxs
  obtain ⟨n0, hn0, hnw0⟩ := rest_of at_ 600 (by decide) (by decide)
  obtain ⟨a0, ha0, haw0⟩ := rest_of addr_ 4095 (by decide) (by decide)
  have HN0 := Lib.hid hnw0; have HA0 := Lib.hid haw0
  rw [show ((600 : Nat) : Int) = 600 from rfl] at HN0
  rw [show ((4095 : Nat) : Int) = 4095 from rfl] at HA0
  have HA1 : Hid (RowKit.wrap64 ((a0 : Int) + 1) = (a0 : Int) + 1) := Lib.hid (by unfold RowKit.wrap64; omega)
  have HN := Lib.hid (onew_any S)
  clear hxs hnw0 haw0 S
  have mm := fun w => run_makeMap (P := Tryd.prog) 27 w
  go_enter Tryd.func5, Tryd.ntmps5
  go_wp2_with fail
  refine HN.out.mono ?_
  rintro e w1 ⟨rfl, F1, T1⟩
  have HA := Lib.hid (awake_any T1.f.span)
  have T1' := Lib.hid T1
  clear T1
  go_wp2_with fail
  refine HA.out.mono ?_
  rintro e w2 ⟨rfl, hb2⟩
  have T2 := T1'.out.below hb2
  have hst : MSt W (W.heap.size + 2) 0 w2 := ⟨⟨_, _, _, T2⟩, by omega⟩
  have K0 := Lib.hid hst
  clear hst T2 hb2 HA T1' HN
  go_wp2_with fail
  generalize W.heap.size + 2 = fb at K0 ⊢
  go_loopw [8] (fun idx wr => ∃ i : Nat, i ≤ xs.length ∧ idx = .int .i64 i ∧ MSt W fb i wr) (fun idx _ => xs.length - (RowKit.intOf idx).toNat)
  case atStart => exact ⟨0, by omega, rfl, K0.out⟩
  case round =>
    obtain ⟨i, hi, rfl, hst⟩ := hrel
    clear K0
    obtain ⟨⟨d, m, F, T⟩, hi40⟩ := hst
    have T' := Lib.hid T
    clear T
    by_cases hgo : i < xs.length ∧ i < 30
    · obtain ⟨hg1, hg2⟩ := hgo
      obtain ⟨g, o, rfl, hg, hcell⟩ := HX.out (by omega)
      have hc := (T'.out.bel.cell (p := ⟨g, o + i, none⟩) hg).trans (hcell i hg1)
      obtain ⟨x, hxe⟩ : ∃ x, x = xs.getD i 0 := ⟨_, rfl⟩
      rw [← hxe] at hc
      obtain ⟨n, hn, hnw⟩ := rest_of x 600 (by decide) (by decide)
      have HNW := Lib.hid hnw
      rw [show ((600 : Nat) : Int) = 600 from rfl] at HNW
      have hsr := Lib.hid (oset_data T'.out (n := n) (a := (i : Int) + 1) ⟨by omega, by omega⟩ ⟨by omega, by omega⟩)
      have b0 : (0 : Int) ≤ (i : Int) := by omega
      have b1 : (i : Int) < (xs.length : Int) := by omega
      clear hcell hnw hxe
      go_wp2_with fail
      rw [HNW.out]
      refine hsr.out.mono ?_
      rintro e w4 ⟨v4, F4, rfl, ho4, T4, ha4⟩
      have T4' := Lib.hid T4
      clear ho4 T4 ha4 hsr hc
      go_wp2_with fail
      go_roundw
      case rel => exact ⟨i + 1, by omega, by go_num, ⟨_, _, F4, T4'.out⟩, by omega⟩
      case measure => simp only [RowKit.intOf]; omega
    · have hPL := Lib.hid (places_any T'.out.f T'.out.inv)
      have hend : xs.length ≤ i ∨ (i < xs.length ∧ 30 ≤ i) := by omega
      clear hgo
      rcases hend with hend | ⟨hend, hend2⟩
      all_goals
        go_wp2_with fail
        rw [HN0.out, HA0.out, HA1.out]
        refine hPL.out.mono ?_
        rintro e w3 ⟨wv, rfl, hw3, hb3⟩
        have T3 := T'.out.below hb3
        have W3 := Lib.hid hw3
        have hG := get_any T3.f T3.inv (n0 : Int)
        rw [adr_data (by omega)] at hG
        obtain ⟨had, hhad⟩ : ∃ had, had = d (n0 : Int) := ⟨_, rfl⟩
        rw [← hhad] at hG
        have HG := Lib.hid hG; have HH := Lib.hid hhad
        clear hhad
        have hS := Lib.hid (oset_data T3 (n := n0) (a := (a0 : Int) + 1) ⟨by omega, by omega⟩ ⟨by omega, by omega⟩)
        have T3' := Lib.hid T3
        clear hG hb3 T3 hPL hw3
        go_wp2_with fail
        refine HG.out.mono ?_
        rintro e w4 ⟨rfl, rfl⟩
        go_wp2_with fail
        refine hS.out.mono ?_
        rintro e w5 ⟨v5, F5, rfl, ho5, T5, ha5⟩
        have hn00 : (0 : Int) ≤ (n0 : Int) ∧ (n0 : Int) < 600 := ⟨by omega, by omega⟩
        have hG5 := get_any T5.f T5.inv (n0 : Int)
        rw [setS_there T3'.out.inv hn00] at hG5
        have hH5 := has_any T5.f (n0 : Int)
        have hb5 : hasB (setS d m (n0 : Int) ((a0 : Int) + 1)).1 (setS d m (n0 : Int) ((a0 : Int) + 1)).2.1 (n0 : Int) = true := by
          unfold hasB
          rw [(setS_ok T3'.out.inv (a := (a0 : Int) + 1) hn00).1, setD_self]
          simp
          left; omega
        rw [hb5] at hH5
        have HG5 := Lib.hid hG5; have HH5 := Lib.hid hH5; have T5' := Lib.hid T5
        have W5 := Lib.hid ((T3'.out.ownP ha5 W3.out).mono (show W.heap.size ≤ _ from T'.out.bel.size))
        have O5 := Lib.hid (ho5.mono (B' := W.heap.size) T3'.out.bel.size)
        clear hG5 hH5 hb5 T5 ho5 ha5 hS W3 HG
        go_wp2_with fail
        refine HG5.out.mono ?_
        rintro e w6 ⟨rfl, rfl⟩
        go_wp2_with fail
        refine HH5.out.mono ?_
        rintro e w7 ⟨rfl, rfl⟩
        rw [setS_gone (by omega), ← HH.out] at O5
        have hpl5 := setS_places T3'.out.inv hn00 (a := (a0 : Int) + 1) (by omega)
        rw [← HH.out] at hpl5
        have HPL5 := Lib.hid hpl5
        have hoth : ∀ k : Int, k ≠ (n0 : Int) → adr (setS d m (n0 : Int) ((a0 : Int) + 1)).1 (setS d m (n0 : Int) ((a0 : Int) + 1)).2.1 k = adr d m k := fun k hk => setS_others T3'.out.inv hn00 (a := (a0 : Int) + 1) (by omega) hk
        have HOTH := Lib.hid hoth
        have hI3 := Lib.hid T3'.out.inv
        obtain ⟨d7, hd7⟩ : ∃ d7, d7 = (setS d m (n0 : Int) ((a0 : Int) + 1)).1 := ⟨_, rfl⟩
        obtain ⟨m7, hm7⟩ : ∃ m7, m7 = (setS d m (n0 : Int) ((a0 : Int) + 1)).2.1 := ⟨_, rfl⟩
        rw [← hd7, ← hm7] at T5' HPL5 HOTH
        have T8 := T5'; have W8 := W5
        clear hpl5 hoth hd7 hm7 HG5 HH5 T3' T5' W5 T'
        have hcase : had = 0 ∨ had = (a0 : Int) + 1 ∨ (had ≠ 0 ∧ had ≠ (a0 : Int) + 1) := by omega
        rcases hcase with h1 | h1 | ⟨h1, h2⟩
        focus
          have q1 : (had == 0) = true := by simp [h1]
          have q2 : (had != 0) = false := by simp [h1]
          rw [if_neg (by simp [h1])] at O5
          obtain ⟨x5, y5, rfl⟩ := O5.out.shape
          have hlen : (placesOf d7 m7).length = (placesOf d m).length + 1 := by have := HPL5.out; rw [if_pos h1] at this; exact this
          have e1 : ((((placesOf d7 m7).length : Nat) : Int) == (((placesOf d m).length : Nat) : Int)) = false := by rw [beq_eq_false_iff_ne]; omega
          have e2 : ((((placesOf d7 m7).length : Nat) : Int) == (((placesOf d m).length : Nat) : Int) + 1) = true := by rw [beq_iff_eq]; omega
          have e3 : (had == 0) = true := q1
          clear h1 O5 hlen
          generalize w7 = wz at T8 W8 ⊢
          go_wp2_with fail
        rotate_left
        focus
          have q1 : (had == 0) = false := by rw [beq_eq_false_iff_ne]; omega
          have q2 : (had != 0) = true := by rw [bne_iff_ne]; omega
          have q3 : (had == (a0 : Int) + 1) = true := by rw [beq_iff_eq]; exact h1
          have q4 : (had != (a0 : Int) + 1) = false := by rw [bne_eq_false_iff_eq]; exact h1
          rw [if_neg (by simp [h1])] at O5
          obtain ⟨x5, y5, rfl⟩ := O5.out.shape
          have hlen : (placesOf d7 m7).length = (placesOf d m).length := by have := HPL5.out; rw [if_neg (by omega)] at this; exact this
          have e1 : ((((placesOf d7 m7).length : Nat) : Int) == (((placesOf d m).length : Nat) : Int)) = true := by rw [beq_iff_eq]; omega
          have e2 : True := trivial
          have e3 : True := trivial
          clear h1 O5 hlen
          generalize w7 = wz at T8 W8 ⊢
          go_wp2_with fail
        rotate_left
        focus
          have q1 : (had == 0) = false := by rw [beq_eq_false_iff_ne]; exact h1
          have q2 : (had != 0) = true := by rw [bne_iff_ne]; exact h1
          have q3 : (had == (a0 : Int) + 1) = false := by rw [beq_eq_false_iff_ne]; exact h2
          have q4 : (had != (a0 : Int) + 1) = true := by rw [bne_iff_ne]; exact h2
          rw [if_pos ⟨h1, h2⟩] at O5
          obtain ⟨x5, y5, rfl⟩ := O5.out.shape
          have hlen : (placesOf d7 m7).length = (placesOf d m).length := by have := HPL5.out; rw [if_neg h1] at this; exact this
          have e1 : ((((placesOf d7 m7).length : Nat) : Int) == (((placesOf d m).length : Nat) : Int)) = true := by rw [beq_iff_eq]; omega
          have e2 : True := trivial
          have e3 : True := trivial
          clear h1 h2 hlen
          go_wp2_with fail
          refine (ints_any (OwnI.row (O5.out.below ((Below.refl _ w7).alloc (Nat.le_refl _) _))) (RowI.lit #[.int .i64 had] [had] rfl) (show 1 ≤ 1000000000 by omega) (show 1 ≤ 1000000000 by omega)).mono ?_
          rintro e wz ⟨rfl, n8, hw8⟩
          have hb8 : Below w7.heap.size w7 wz := by rw [hw8]; exact below_drewN ((Below.refl _ w7).alloc (Nat.le_refl _) _) _
          have T9 := Lib.hid (T8.out.below hb8); have W9 := Lib.hid (W8.out.below hb8)
          clear hw8 hb8 T8 W8 O5
          have T8 := T9; have W8 := W9
          clear T9 W9
          go_wp2_with fail
        all_goals
          have T9 := T8.out.alloc (.map #[] 0)
          have hPL9 := Lib.hid (places_any T9.f T9.inv)
          have W9 := W8.out.below ((Below.refl _ wz).alloc (Nat.le_refl _) (.map #[] 0))
          have M9 : MapIs (Value.int .i64) (wz.alloc (.map #[] 0)) wz.heap.size (mapF ((placesOf d7 m7).take 0)) := by rw [List.take_zero]; exact MapIs.new _ _ _ (blk_new rfl)
          have hnb : W.heap.size ≤ wz.heap.size := T8.out.bel.size
          have hI7 := Lib.hid T8.out.inv
          have B9 := T9.bel
          refine hPL9.out.mono ?_
          rintro e w9 ⟨pv, rfl, hp9, hb9⟩
          have ST : Hid (MvSt W wz.heap.size wv pv (placesOf d m) (placesOf d7 m7) 0 w9) := Lib.hid ⟨W9.below hb9, hp9.mono B9.size, M9.fr (S := fun _ => False) (Fr.below hb9) id, below_call B9 hb9 (Nat.le_refl _), hnb⟩
          obtain ⟨xp, yp, rfl⟩ := hp9.shape
          obtain ⟨xw, yw, rfl⟩ := W8.out.shape
          have hnd := Lib.hid (places_nodup (d := d7) (m := m7))
          have hmem := Lib.hid (fun k a => mem_places hI7.out (k := k) (a := a))
          have hmemw := Lib.hid (fun k a => mem_places hI3.out (k := k) (a := a))
          generalize wz.heap.size = nb at ST ⊢
          clear T9 hPL9 W9 M9 hnb B9 hp9 hb9 T8 W8
          have hL7 : (placesOf d7 m7).length ≤ 700 := places_len
          have hLw : (placesOf d m).length ≤ 700 := places_len
          generalize (placesOf d7 m7) = L at *
          generalize (placesOf d m) = Lw at *
          go_wp2_with fail
          go_loopw [114] (fun idx wr => ∃ j : Nat, j ≤ L.length ∧ idx = .int .i64 j ∧ MvSt W nb (.slice xw Lw.length yw) (.slice xp L.length yp) Lw L j wr) (fun idx _ => L.length - (RowKit.intOf idx).toNat)
          case atStart => exact ⟨0, by omega, rfl, ST.out⟩
          case round =>
            obtain ⟨j, hj, rfl, hst⟩ := hrel
            clear ST
            have HS := Lib.hid hst
            clear hst
            by_cases hjl : j < L.length
            · obtain ⟨p, hp⟩ : ∃ p, L[j]? = some p := ⟨_, List.getElem?_eq_getElem hjl⟩
              obtain ⟨g, c, he, hlc, _, hgl, hcell⟩ := HS.out.now.cells (by omega)
              injection he with h1 _ h2
              subst h1 h2
              obtain ⟨k1, k2⟩ := hcell j p hp
              have b0 : (0 : Int) ≤ (j : Int) := by omega
              have b1 : (j : Int) < (L.length : Int) := by omega
              have HP := Lib.hid hp
              clear hcell hp
              have hA := HS.out.alloc (.cells #[.int .i64 p.1, .int .i64 p.2] 46)
              obtain ⟨wu, hup, hmu, hfu⟩ := hA.mp.put klI Tryd.underlying27 p.1 (.int .i64 p.2)
              rw [← mapF_snoc, ← take_at HP.out] at hmu
              have hS2 : MvSt W nb (.slice xw Lw.length yw) (.slice (some ⟨g, 0, none⟩) L.length yp) Lw L (j + 1) wu := ⟨hA.was.fr hfu (hA.was.off_map hA.mp), hA.now.fr hfu (hA.now.off_map hA.mp), hmu, hA.bel.trans (hfu.toBelow (B := W.heap.size) hA.bel.size fun x hx => by rw [show x = nb from hx]; exact hA.low), hA.low⟩
              have HS2 := Lib.hid hS2
              clear hA hmu hfu hS2
              go_wp2_with fail
              go_roundw
              case rel => exact ⟨j + 1, by omega, by go_num, HS2.out⟩
              case measure => simp only [RowKit.intOf]; omega
            · obtain rfl : j = L.length := by omega
              have hS2 := HS.out
              have hsz := hS2.mp
              rw [List.take_length] at hsz
              have ST : Hid (OwnP wr W.heap.size (.slice xw Lw.length yw) Lw ∧ MapIs (Value.int .i64) wr nb (mapF L) ∧ Below W.heap.size W wr) := Lib.hid ⟨hS2.was, hsz, hS2.bel⟩
              clear hS2 hsz HS
              go_wp2_with fail
              go_loopw [126] (fun idx wr => ∃ j : Nat, j ≤ Lw.length ∧ idx = .int .i64 j ∧ (OwnP wr W.heap.size (.slice xw Lw.length yw) Lw ∧ MapIs (Value.int .i64) wr nb (mapF L) ∧ Below W.heap.size W wr)) (fun idx _ => Lw.length - (RowKit.intOf idx).toNat)
              case atStart => exact ⟨0, by omega, rfl, ST.out⟩
              case round =>
                obtain ⟨j, hj, rfl, hst⟩ := hrel
                clear ST
                have HS := Lib.hid hst
                clear hst
                by_cases hjl : j < Lw.length
                · obtain ⟨p, hp⟩ : ∃ p, Lw[j]? = some p := ⟨_, List.getElem?_eq_getElem hjl⟩
                  obtain ⟨g, c, he, hlc, _, hgl, hcell⟩ := HS.out.1.cells (by omega)
                  injection he with h1 _ h2
                  subst h1 h2
                  obtain ⟨k1, k2⟩ := hcell j p hp
                  have b0 : (0 : Int) ≤ (j : Int) := by omega
                  have b1 : (j : Int) < (Lw.length : Int) := by omega
                  have hb : Below wr.heap.size wr (wr.alloc (.cells #[.int .i64 p.1, .int .i64 p.2] 46)) := (Below.refl _ wr).alloc (Nat.le_refl _) _
                  have hM2 := HS.out.2.1.fr (S := fun _ => False) (Fr.below hb) id
                  have lk := hM2.look1 klI Tryd.underlying27 zero_int p.1
                  have HS2 := Lib.hid (show OwnP _ W.heap.size (.slice (some ⟨g, 0, none⟩) Lw.length yw) Lw ∧ MapIs (Value.int .i64) _ nb (mapF L) ∧ Below W.heap.size W _ from ⟨HS.out.1.below hb, hM2, below_call HS.out.2.2 hb (Nat.le_refl _)⟩)
                  have hpm := List.mem_of_getElem? hp
                  clear hcell hb hM2 HS hp
                  by_cases hpn : p.1 = (n0 : Int)
                  · have r1 : (p.1 == (n0 : Int)) = true := beq_iff_eq.2 hpn
                    have r2 : (p.1 != (n0 : Int)) = false := by simp [hpn]
                    clear hpn lk hpm
                    go_wp2_with fail
                    go_roundw
                    case rel => exact ⟨j + 1, by omega, by go_num, HS2.out⟩
                    case measure => simp only [RowKit.intOf]; omega
                  · have r1 : (p.1 == (n0 : Int)) = false := beq_eq_false_iff_ne.2 hpn
                    have r2 : (p.1 != (n0 : Int)) = true := by simp [hpn]
                    have hin : (p.1, p.2) ∈ L := by
                      refine (hmem.out _ _).2 ?_
                      rw [HOTH.out p.1 hpn]
                      exact (hmemw.out _ _).1 hpm
                    rw [mapF_at L hnd.out hin] at lk
                    clear hpn hin hpm
                    go_wp2_with fail
                    go_roundw
                    case rel => exact ⟨j + 1, by omega, by go_num, HS2.out⟩
                    case measure => simp only [RowKit.intOf]; omega
                · have hlen := HS.out.2.1.len klI Tryd.underlying27 hnd.out (mapF_some L hnd.out) 3
                  rw [List.length_map] at hlen
                  go_wp2_with fail
                  go_ret
                  exact ⟨rfl, HS.out.2.2⟩
end Go.Proofs.YtklamgijikcnaaaDoor
