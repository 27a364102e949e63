/- Walk of file's Load. -/
import Derived.Test.YtklamgijikcnaaaDoorF40
import Derived.Laws.EntriesVeiled
namespace Go.Proofs.YtklamgijikcnaaaDoor
open Go.RowKit

def LoadRes (R : Nat → Prop) (rd : Int → Option (List Int)) (J : List Int → World → Prop) (l : List Int) (tr : List Int) (w : World) (e : Ending) (w' : World) : Prop :=
  Fr R w w' ∧ ((rowOk rd 4 600 l 9 = true ∧ ∃ xb d m F, e = .returned (.tuple #[.pointer (some ⟨xb, 0, none⟩), .int .i64 0]) ∧ FAt w' xb d m F ∧ Inv d m ∧ adr d m = applyE (fun _ => 0) (rowE rd 4 600 l 9) ∧ J (tr ++ rowT rd 4 600 l 9) w' ∧ ∀ x, F x → w.heap.size ≤ x) ∨
    (rowOk rd 4 600 l 9 = false ∧ e = .returned (.tuple #[.pointer none, .int .i64 100])))
set_option maxHeartbeats 4000000 in
set_option maxRecDepth 100000 in
theorem load_any {R : Nat → Prop} {rd : Int → Option (List Int)} {rf : FuncId} {cap : Array Value} {J : List Int → World → Prop} {w : World} {l tr : List Int} (hR : Reader w.heap.size R rd rf cap J) (S : SpanAt w) (hj : J tr w) (hl : l.length = 9) (hb : ∀ p ∈ l, 0 ≤ p ∧ p < 4294967296) :
    Calls Tryd.prog 19 #[.agg (u32s l).toArray, .func (.func rf) #[] cap] w (LoadRes R rd J l tr w) := by
  have HL := Lib.hid hl; have HB := Lib.hid hb; have HJ := Lib.hid hj
  obtain ⟨w1, hw1⟩ : ∃ w1, w1 = (w.alloc (.cells (u32s l).toArray 55)).alloc (.cells #[.func (.func rf) #[] cap] 60) := ⟨_, rfl⟩
  have hb1 : Below w.heap.size w w1 := by rw [hw1]; exact ((Below.refl _ w).alloc (Nat.le_refl _) _).alloc (by simp) _
  have og : w1.heap[w.heap.size]? = some (.cells (u32s l).toArray 55 (0, 0)) := by rw [hw1]; exact blk_old (blk_new rfl)
  have orr : w1.heap[w.heap.size + 1]? = some (.cells #[.func (.func rf) #[] cap] 60 (0, 0)) := by rw [hw1]; exact blk_new (by simp)
  have hz1 : w1.heap.size = w.heap.size + 2 := by rw [hw1]; simp
  have HNEW := Lib.hid (fnew_any (S.below hb1))
  have HB1 := Lib.hid hb1; have OG := Lib.hid og; have OR := Lib.hid orr; have HZ1 := Lib.hid hz1
  have hsz : (u32s l).toArray.size = 9 := by unfold u32s; simp [hl]
  clear hl hb hj S hb1 og orr hz1 hsz
  generalize hcs : (u32s l).toArray = cs at *
  have HCS := Lib.hid hcs
  clear hcs
  go_enter Tryd.func19, Tryd.ntmps19
  go_wp2_with fail
  rw [← hw1]
  clear hw1
  refine HNEW.out.mono ?_
  rintro e w2 ⟨rfl, hF2, hb2⟩
  obtain ⟨xb, hxb⟩ : ∃ xb, xb = w1.heap.size + 2 := ⟨_, rfl⟩
  obtain ⟨mv, hmv⟩ : ∃ mv, mv = w2.heap.size := ⟨_, rfl⟩
  obtain ⟨F, hF⟩ : ∃ F : Nat → Prop, F = fun x => w1.heap.size ≤ x ∧ x < w1.heap.size + 3 := ⟨_, rfl⟩
  rw [← hxb, ← hF] at hF2
  rw [← hxb]
  have hz2 := hb2.size
  have hz0 := HB1.out.size
  have hz1' := HZ1.out
  obtain ⟨w4, hw4⟩ : ∃ w4, w4 = (w2.alloc (.cells #[.pointer (some ⟨xb, 0, none⟩)] 23)).alloc (.cells #[.func (.func 38) #[] #[.pointer (some ⟨w2.heap.size, 0, none⟩), .pointer (some ⟨w.heap.size + 1, 0, none⟩), .pointer (some ⟨w2.heap.size + 1, 0, none⟩)]] 92) := ⟨_, rfl⟩
  have hb4 : Below w2.heap.size w2 w4 := by rw [hw4]; exact ((Below.refl _ w2).alloc (Nat.le_refl _) _).alloc (by simp) _
  have om : w4.heap[w2.heap.size]? = some (.cells #[.pointer (some ⟨xb, 0, none⟩)] 23 (0, 0)) := by rw [hw4]; exact blk_old (blk_new rfl)
  have od : w4.heap[w2.heap.size + 1]? = some (.cells #[.func (.func 38) #[] #[.pointer (some ⟨w2.heap.size, 0, none⟩), .pointer (some ⟨w.heap.size + 1, 0, none⟩), .pointer (some ⟨w2.heap.size + 1, 0, none⟩)]] 92 (0, 0)) := by rw [hw4]; exact blk_new (by simp)
  have or4 := ((hb4.block _ (by omega)).trans (hb2.block _ (by omega))).trans OR.out
  have og4 := ((hb4.block _ (by omega)).trans (hb2.block _ (by omega))).trans OG.out
  have hFlt : ∀ x, F x → w1.heap.size ≤ x ∧ x < w2.heap.size := fun x hx => ⟨by rw [hF] at hx; exact hx.1, hF2.lt x hx⟩
  have hbw : Below w.heap.size w w4 := HB1.out.trans ((hb2.mono (by omega)).trans (hb4.mono (by omega)))
  have hFA4 := (hF2.below hb4).below (below_drewN (Below.refl _ w4) 1)
  have hlc : LC w.heap.size F xb w2.heap.size (w.heap.size + 1) (w2.heap.size + 1) rf cap (w4.drewN 1) :=
    ⟨om, or4, od, ⟨fun h => by have := (hFlt _ h).2; omega, by omega⟩, ⟨fun h => by have := (hFlt _ h).1; omega, by omega⟩, ⟨fun h => by have := (hFlt _ h).2; omega, by omega⟩, fun x hx => by have := (hFlt x hx).1; omega⟩
  have hj4 : J tr (w4.drewN 1) := hR.stay _ _ _ (fun _ => False) HJ.out (Fr.below (below_drewN hbw 1)) fun _ h => h.elim
  have hd4 : DSt w.heap.size xb w2.heap.size (w.heap.size + 1) (w2.heap.size + 1) R rd rf cap J (w4.drewN 1) F (adr (fun _ => 0) (fun _ => none)) [] tr (w4.drewN 1) (fun _ => 0) (fun _ => none) F :=
    ⟨hFA4, Inv.empty, rfl, hj4, hlc, Fr.refl _ _, fun _ h => .inl h, by have := hbw.size; exact this⟩
  have hng : ¬ F w.heap.size ∧ w.heap.size ≤ w.heap.size := ⟨fun h => by have := (hFlt _ h).1; omega, Nat.le_refl _⟩
  have hDN := down_any hR 4 600 9 l w.heap.size 55 9 (w4.drewN 1) (fun _ => 0) (fun _ => none) F tr (.inl ⟨rfl, rfl, Nat.le_refl _⟩) HL.out HB.out (by rw [HCS.out]; exact og4) hng hd4
  rw [adr_zero] at hDN
  have HDN := Lib.hid hDN
  have HFZ : Hid (∀ x, F x → w.heap.size ≤ x) := Lib.hid fun x hx => by have := (hFlt x hx).1; omega
  have HBW := Lib.hid hbw
  have cd4 : w4.cell? ⟨w2.heap.size + 1, 0, none⟩ = some (.func (.func 38) #[] #[.pointer (some ⟨w2.heap.size, 0, none⟩), .pointer (some ⟨w.heap.size + 1, 0, none⟩), .pointer (some ⟨w2.heap.size + 1, 0, none⟩)]) := cell_blk_some od rfl
  clear hF2 hb2 hb4 om od or4 og4 hFlt hbw hFA4 hlc hj4 hd4 hng hDN hz2 hz0 hz1' hmv hxb HNEW
  go_wp2_with fail
  rw [← hw4]
  clear hw4
  have hcd := HL.out
  go_region_law
    (first
      | (go_simp; go_at_call 38; refine HDN.out.mono ?_
         rintro e w7 ⟨b, rfl, hbv, hfr7, hd7⟩
         have HBV := Lib.hid hbv; have HF7 := Lib.hid hfr7; have HD7 := Lib.hid hd7
         clear hbv hfr7 hd7))
  clear cd4 HDN hcd
  have hbv := HBV.out
  rw [decide_eq_true rfl, Bool.or_true, Bool.true_and] at hbv
  have HV := Lib.hid hbv
  have hfr : Fr R w w7 := ((Fr.below HBW.out).trans' ((Fr.refl (fun _ => False) w4).drewN 1) fun _ _ h => h.elim).trans' HF7.out fun x hx hS => hS.elim (fun h => by have := HFZ.out x h; omega) id
  have HFR := Lib.hid hfr
  clear hbv HBV HF7 hfr
  have hz := HBW.out.size
  cases b
  · clear HD7
    go_wp2_with fail
    go_ret2
    exact ⟨HFR.out, .inr ⟨HV.out.symm, rfl⟩⟩
  · obtain ⟨d7, m7, F7, hd7⟩ := HD7.out rfl
    have cm := cell_blk_some hd7.lc.m (i := 0) rfl
    have RES : Hid (rowOk rd 4 600 l 9 = true ∧ ∃ xb' d m F', (Ending.returned (.tuple #[.pointer (some ⟨xb, 0, none⟩), .int .i64 0])) = .returned (.tuple #[.pointer (some ⟨xb', 0, none⟩), .int .i64 0]) ∧ FAt w7 xb' d m F' ∧ Inv d m ∧ adr d m = applyE (fun _ => 0) (rowE rd 4 600 l 9) ∧ J (tr ++ rowT rd 4 600 l 9) w7 ∧ ∀ x, F' x → w.heap.size ≤ x) :=
      Lib.hid ⟨HV.out.symm, xb, d7, m7, F7, rfl, hd7.f, hd7.inv, hd7.adr, hd7.j, hd7.lc.fz⟩
    clear hd7 HD7
    go_wp2_with fail
    go_ret2
    exact ⟨HFR.out, .inl RES.out⟩
end Go.Proofs.YtklamgijikcnaaaDoor
