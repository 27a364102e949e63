/- Walk of Walk. -/
import Derived.Test.YtoofcnehoffllaaT28
import Derived.Laws.EntriesVeiled
namespace Go.Proofs.Ytoofcnehoffllaa
open Go.RowKit

section
variable {w : World} {tb nb cap : Nat} {P E : Nat → Option Nat} {V : Nat → Value} {M : TM}
set_option maxHeartbeats 2000000 in
set_option maxRecDepth 100000 in
theorem walk_any {F : Nat → Prop} (hAt : TAt w tb cap F M) (hG : TG M cap) (hS : TS M) :
    Calls Try.prog 15 #[.pointer (some ⟨tb, 0, none⟩)] w fun e w' => ∃ v l, e = .returned v ∧ WalkIs M l ∧ l.length ≤ 20100 ∧ w'.ownsRow w.heap.size 9 1 v l.length (l.map Value.string) ∧ Below w.heap.size w w' := by
  obtain ⟨nb, P, E, V, h, hFt⟩ := hAt
  obtain ⟨w1, hw1⟩ : ∃ w1, w1 = (w.alloc (.cells #[.slice none 0 0] 34)).alloc (.cells #[.func (.func 31) #[] #[.pointer (some ⟨w.heap.size, 0, none⟩), .pointer (some ⟨w.heap.size + 1, 0, none⟩)]] 72) := ⟨_, rfl⟩
  have hb1 : Below w.heap.size w w1 := by rw [hw1]; exact ((Below.refl _ w).alloc (Nat.le_refl _) _).alloc (by simp) _
  have ho : w1.heap[w.heap.size]? = some (.cells #[.slice none 0 0] 34 (0, 0)) := by rw [hw1]; exact blk_old (blk_new rfl)
  have hv : w1.heap[w.heap.size + 1]? = some (.cells #[.func (.func 31) #[] #[.pointer (some ⟨w.heap.size, 0, none⟩), .pointer (some ⟨w.heap.size + 1, 0, none⟩)]] 72 (0, 0)) := by rw [hw1]; exact blk_new (by simp)
  have h1 := h.below hb1
  obtain ⟨nd2, f2, hm2, _⟩ := isDir_there hG.ok.root
  obtain ⟨b2, hp2, _⟩ := h1.at_ hm2
  have h2c := (hG.ok.low 2 nd2 hm2).2
  obtain ⟨cs, hr, hz, hcs⟩ := h1.row
  have c0 := cell_blk_some h1.top (i := 0) rfl
  have c2 := cell_blk_some hr (hcs 2 h2c)
  rw [hp2] at c2
  have x1 := cell_blk_some hv (i := 0) rfl
  have hcap : (2 : Int) < (cap : Int) := by omega
  have hst : VSt w w.heap.size w.heap.size (w.heap.size + 1) M w1.drew (.slice none 0 0) [] := ⟨below_drewN hb1 1, ho, hv, ⟨rfl, .inl ⟨rfl, rfl⟩⟩, List.nodup_nil, fun l hl => by cases hl⟩
  have hc := visit_any (vb := w.heap.size + 1) hG hS rfl (Nat.le_refl _) (by omega) h 256 [] 2 w1.drew (.slice none 0 0) [] rfl (by simp) hG.ok.root hst (fun l hl => by cases hl)
  rw [← path_root, hp2] at hc
  unfold nptr at c2 hc
  rw [Option.map_some] at c2 hc
  have HC := Lib.hid hc; have HG := Lib.hid hG; have HCB := Lib.hid h.capB
  clear hc hst hcs hr h1 hb1 ho hv h hFt hm2 hp2 hG hS
  go_enter Try.func15, Try.ntmps15
  go_wp2_with fail
  try rw [← hw1]
  clear hw1
  go_still_tail 7, (by kernel_rfl)
  change wpList _ _ _ _ _ w1.drew
  go_wp2_with fail
  refine HC.out.mono ?_
  rintro e w2 ⟨rfl, LL, v2, hB, hst2, -⟩
  have hle : ([] : List (List ByteArray)) ++ LL.map (([] : List ByteArray) ++ ·) = LL := by simp
  rw [hle] at hst2
  have hcnt := HG.out.paths_le HCB.out hst2.nod hst2.ok
  obtain ⟨va, vc, rfl⟩ := own_shape hst2.own
  have y0 := cell_blk_some hst2.out (i := 0) rfl
  have hown := hst2.own
  obtain ⟨N, hN⟩ : ∃ N, N = LL.length := ⟨_, rfl⟩
  obtain ⟨L, hL⟩ : ∃ L, L = LL.map (pathAt M) := ⟨_, rfl⟩
  have hLN : L.length = N := by rw [hL, List.length_map, hN]
  rw [← hN, ← hL, ← hLN] at hown
  have hout := hst2.out
  rw [← hN, ← hLN] at y0 hout
  have HSO := Lib.hid (sortS_own hown (by omega))
  have hoff := own_off hown hout (by decide)
  have HB := Lib.hid hB; have HBEL := Lib.hid hst2.bel; have HOUT := Lib.hid hout; have HL := Lib.hid hL; have HOFF := Lib.hid hoff; have HOWN := Lib.hid hown
  have HCNT : Hid (L.length ≤ 20100) := Lib.hid (by omega)
  clear hst2 hout hB hown hoff hL hle hN hLN hcnt HC
  go_wp2_with fail
  refine HSO.out.mono ?_
  rintro e w3 ⟨rfl, ho3, hf3⟩
  have hout3 := (hf3.block w.heap.size (blk_lt HOUT.out) HOFF.out).trans HOUT.out
  have z0 := cell_blk_some hout3 (i := 0) rfl
  have HO3 := Lib.hid ho3; have HF3 := Lib.hid hf3
  clear ho3 hf3 hout3 HSO y0
  go_wp2_with fail
  go_ret
  have hoz := own_mono HO3.out (Nat.le_refl _)
  refine ⟨.slice va L.length vc, sortS L, rfl, ⟨sortS_sorted L, LL, HB.out, by rw [← HL.out]; exact sortS_perm L⟩, by rw [sortS_length]; exact HCNT.out, by rw [sortS_length]; exact hoz, ?_⟩
  exact HBEL.out.trans (HF3.out.toBelow (by have := HBEL.out.size; exact this) fun x hx => (World.ownsRow.lt HOWN.out x hx).1)
end
end Go.Proofs.Ytoofcnehoffllaa
