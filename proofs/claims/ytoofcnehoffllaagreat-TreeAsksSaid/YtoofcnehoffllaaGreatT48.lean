/- A call of a script: Fits and Do (printed by tools/gen48.py). -/
import Derived.Test.YtoofcnehoffllaaGreatT47
import Derived.Test.YtoofcnehoffllaaGreatOpsT
namespace Go.Proofs.YtoofcnehoffllaaGreat
open Go.RowKit

/-- What a script's call answers, and what the tree is then. -/
noncomputable def doN (M : TM) (cap : Nat) (o : TOp) : Int × Int × TM :=
  if o.kind = 1 then makeN M cap o.path false else if o.kind = 2 then makeN M cap o.path true else if o.kind = 3 then (0, linkN M o.old o.path) else if o.kind = 4 then (0, goneN M o.path false) else if o.kind = 5 then (0, goneN M o.path true) else
  if o.kind = 6 then (0, renameN M o.old o.path) else if o.kind = 7 then (0, writeN M o.path o.at_ o.data) else if o.kind = 8 then (0, truncN M o.path o.at_) else (0, 0, M)
def opT (x : TOp × Value) : Value := .agg #[.int .i64 x.1.kind, .string x.1.path, .string x.1.old, .int .i64 x.1.at_, x.2]
def fitsN (o : TOp) : Bool := decide (o.path.size ≤ 300) && decide (o.old.size ≤ 300) && decide (o.data.length ≤ 4200)
/-- The row's block, all of bytes; or the row is empty. -/
def ByteRow (w : World) (g n : Nat) (a : Option Addr) : Prop := n = 0 ∨ (a = some ⟨g, 0, none⟩ ∧ ∃ cur, w.heap[g]? = some (.cells cur 5 (0, 0)) ∧ ∀ j, j < n → ∃ z, cur[j]? = some (.int .u8 z))
theorem byteRow_own {w0 w : World} {B n c : Nat} {a : Option Addr} {l : List Value} (h : w.ownsRow B 5 1 (.slice a n c) n l) (hl : ∀ u ∈ l, ∃ z, u = .int .u8 z) (h0 : w0.heap.size ≤ B) (hlt : w0.heap.size < w.heap.size) :
    ∃ g, w0.heap.size ≤ g ∧ g < w.heap.size ∧ ByteRow w g n a := by
  rcases h.2 with ⟨_, hn⟩ | ⟨g, cap, cur, he, hb, hg, hc, _, hs, ht⟩
  · exact ⟨w0.heap.size, Nat.le_refl _, hlt, .inl hn⟩
  · obtain ⟨h1, -, -⟩ := Value.slice.inj he
    refine ⟨g, by omega, blk_lt hg, .inr ⟨h1, cur, hg, fun j hj => ?_⟩⟩
    have hln := h.1
    obtain ⟨u, hu⟩ : ∃ u, l[j]? = some u := ⟨_, List.getElem?_eq_getElem (by omega)⟩
    obtain ⟨z, rfl⟩ := hl u (List.mem_of_getElem? hu)
    rw [← ht, List.getElem?_take, if_pos (by omega), Array.getElem?_toList] at hu
    exact ⟨z, hu⟩
theorem ArgB.src {W w : World} {v : Value} {ys : List Int} (h : ArgB W v ys) (hb : Below W.heap.size W w) : SrcG 1 w v ys.length (u8s ys) := by
  obtain ⟨a, c, rfl, hc, hh⟩ := h
  refine ⟨a, c, rfl, by rw [u8s_length]; omega, u8s_one ys, fun h0 => ?_⟩
  obtain ⟨g, o, rfl, hg, hcell⟩ := hh h0
  refine ⟨_, rfl, fun j u hu => ?_⟩
  unfold u8s at hu
  rw [List.getElem?_map] at hu
  cases hz : ys[j]? with
  | none => rw [hz] at hu; cases hu
  | some z =>
    rw [hz] at hu
    injection hu with hu
    rw [Addr.add_lit, ← hu]
    exact (cell_below hb hg).trans (hcell j z hz)
section
variable {w0 w w' : World} {tb nb cap : Nat} {P E : Nat → Option Nat} {V : Nat → Value} {M M' : TM} {F : Nat → Prop}
theorem LAt.rename (h : LAt w0 w tb cap M) (old s : ByteArray) (ho : old.size ≤ 1000000) (hs : s.size ≤ 1000000) :
    Calls Tryz.prog 131 #[.pointer (some ⟨tb, 0, none⟩), .string old, .string s] w fun e w' => e = .returned (.int .i64 (renameN M old s).1) ∧ LAt w0 w' tb cap (renameN M old s).2 :=
  (rename_any h.at_ h.good old s ho hs).mono fun _ _ ⟨a, b⟩ => ⟨a, h.left b (h.good.rename old s)⟩
set_option maxHeartbeats 1000000 in
set_option maxRecDepth 100000 in
theorem fits_any (x : TOp × Value) (hv : ∃ a c, x.2 = .slice a x.1.data.length c) (w : World) :
    Calls Tryz.prog 8 #[opT x] w fun e w' => e = .returned (.bool (fitsN x.1)) ∧ Below w.heap.size w w' := by
  obtain ⟨⟨kind, path, old, at_, data⟩, v⟩ := x
  obtain ⟨a, c, hv⟩ := hv
  have hv : v = .slice a data.length c := hv
  subst hv
  have HB : Hid (Below w.heap.size w (w.alloc (.cells #[.int .i64 kind, .string path, .string old, .int .i64 at_, .slice a data.length c] 36))) := Lib.hid ((Below.refl _ w).alloc (Nat.le_refl _) _)
  unfold opT fitsN
  by_cases h1 : path.size ≤ 300
  · have q1 : decide ((path.size : Int) ≤ 300) = true := decide_eq_true (by omega)
    by_cases h2 : old.size ≤ 300
    · have q2 : decide ((old.size : Int) ≤ 300) = true := decide_eq_true (by omega)
      by_cases h3 : data.length ≤ 4200
      · have q3 : decide ((data.length : Int) ≤ 4200) = true := decide_eq_true (by omega)
        have HR : Hid ((decide (path.size ≤ 300) && decide (old.size ≤ 300) && decide (data.length ≤ 4200)) = true) := Lib.hid (by rw [decide_eq_true h1, decide_eq_true h2, decide_eq_true h3]; rfl)
        clear h1 h2 h3
        go_enter Tryz.func8, Tryz.ntmps8
        go_wp2_with fail
        go_ret
        rw [HR.out]
        exact ⟨rfl, HB.out⟩
      · have q3 : decide ((data.length : Int) ≤ 4200) = false := decide_eq_false (by omega)
        have HR : Hid ((decide (path.size ≤ 300) && decide (old.size ≤ 300) && decide (data.length ≤ 4200)) = false) := Lib.hid (by rw [decide_eq_false h3, Bool.and_false])
        clear h1 h2 h3
        go_enter Tryz.func8, Tryz.ntmps8
        go_wp2_with fail
        go_ret
        rw [HR.out]
        exact ⟨rfl, HB.out⟩
    · have q2 : decide ((old.size : Int) ≤ 300) = false := decide_eq_false (by omega)
      have HR : Hid ((decide (path.size ≤ 300) && decide (old.size ≤ 300) && decide (data.length ≤ 4200)) = false) := Lib.hid (by rw [decide_eq_false h2, Bool.and_false, Bool.false_and])
      clear h1 h2
      go_enter Tryz.func8, Tryz.ntmps8
      go_wp2_with fail
      go_ret
      rw [HR.out]
      exact ⟨rfl, HB.out⟩
  · have q1 : decide ((path.size : Int) ≤ 300) = false := decide_eq_false (by omega)
    have HR : Hid ((decide (path.size ≤ 300) && decide (old.size ≤ 300) && decide (data.length ≤ 4200)) = false) := Lib.hid (by rw [decide_eq_false h1, Bool.false_and, Bool.false_and])
    clear h1
    go_enter Tryz.func8, Tryz.ntmps8
    go_wp2_with fail
    go_ret
    rw [HR.out]
    exact ⟨rfl, HB.out⟩
set_option maxHeartbeats 4000000 in
set_option maxRecDepth 100000 in
theorem do_any (h : LAt w0 w tb cap M) (x : TOp × Value) (hp : x.1.path.size ≤ 1000000) (ho : x.1.old.size ≤ 1000000) (hl : x.1.data.length ≤ 1000000) (hr : -9223372036854775808 ≤ x.1.at_ ∧ x.1.at_ ≤ 9223372036854775807)
    (hsrc : SrcG 1 w x.2 x.1.data.length (u8s x.1.data)) (hb : ∀ y ∈ x.1.data, 0 ≤ y ∧ y < 256) :
    Calls Tryz.prog 9 #[.iface 24 (.pointer (some ⟨tb, 0, none⟩)), opT x] w fun e w' => e = .returned (.tuple #[.int .i64 (doN M cap x.1).1, .int .i64 (doN M cap x.1).2.1]) ∧ LAt w0 w' tb cap (doN M cap x.1).2.2 := by
  obtain ⟨⟨kind, path, old, at_, data⟩, v⟩ := x
  unfold opT
  dsimp only at hp ho hl hr hsrc hb ⊢
  have hbw : Below w.heap.size w (w.alloc (.cells #[.int .i64 kind, .string path, .string old, .int .i64 at_, v] 36)) := (Below.refl _ w).alloc (Nat.le_refl _) _
  have hB := h.below hbw

  by_cases h1 : kind = 1
  · subst h1
    have HC := Lib.hid (hB.create path hp)
    have HRES : Hid (doN M cap ⟨1, path, old, at_, data⟩ = makeN M cap path false) := Lib.hid (by unfold doN; dsimp only; rw [if_pos rfl])
    generalize makeN M cap path false = r at *
    clear h hp ho hl hsrc hb hr hbw hB
    go_enter Tryz.func9, Tryz.ntmps9
    go_wp2_with fail
    refine HC.out.mono ?_
    rintro e w1 ⟨rfl, hl1⟩
    have HL := Lib.hid hl1
    clear hl1 HC
    go_wp2_with fail
    go_ret2
    rw [HRES.out]
    exact ⟨rfl, HL.out⟩
  by_cases h2 : kind = 2
  · subst h2
    have HC := Lib.hid (hB.mkdir path hp)
    have HRES : Hid (doN M cap ⟨2, path, old, at_, data⟩ = makeN M cap path true) := Lib.hid (by unfold doN; dsimp only; rw [if_neg (by decide)]; rw [if_pos rfl])
    generalize makeN M cap path true = r at *
    clear h hp ho hl hsrc hb hr hbw hB
    go_enter Tryz.func9, Tryz.ntmps9
    go_wp2_with fail
    refine HC.out.mono ?_
    rintro e w1 ⟨rfl, hl1⟩
    have HL := Lib.hid hl1
    clear hl1 HC
    go_wp2_with fail
    go_ret2
    rw [HRES.out]
    exact ⟨rfl, HL.out⟩
  by_cases h3 : kind = 3
  · subst h3
    have HC := Lib.hid (hB.link old path ho hp)
    have HRES : Hid (doN M cap ⟨3, path, old, at_, data⟩ = (0, linkN M old path)) := Lib.hid (by unfold doN; dsimp only; rw [if_neg (by decide)]; rw [if_neg (by decide)]; rw [if_pos rfl])
    generalize linkN M old path = r at *
    clear h hp ho hl hsrc hb hr hbw hB
    go_enter Tryz.func9, Tryz.ntmps9
    go_wp2_with fail
    refine HC.out.mono ?_
    rintro e w1 ⟨rfl, hl1⟩
    have HL := Lib.hid hl1
    clear hl1 HC
    go_wp2_with fail
    go_ret2
    rw [HRES.out]
    exact ⟨rfl, HL.out⟩
  by_cases h4 : kind = 4
  · subst h4
    have HC := Lib.hid (hB.unlink path hp)
    have HRES : Hid (doN M cap ⟨4, path, old, at_, data⟩ = (0, goneN M path false)) := Lib.hid (by unfold doN; dsimp only; rw [if_neg (by decide)]; rw [if_neg (by decide)]; rw [if_neg (by decide)]; rw [if_pos rfl])
    generalize goneN M path false = r at *
    clear h hp ho hl hsrc hb hr hbw hB
    go_enter Tryz.func9, Tryz.ntmps9
    go_wp2_with fail
    refine HC.out.mono ?_
    rintro e w1 ⟨rfl, hl1⟩
    have HL := Lib.hid hl1
    clear hl1 HC
    go_wp2_with fail
    go_ret2
    rw [HRES.out]
    exact ⟨rfl, HL.out⟩
  by_cases h5 : kind = 5
  · subst h5
    have HC := Lib.hid (hB.rmdir path hp)
    have HRES : Hid (doN M cap ⟨5, path, old, at_, data⟩ = (0, goneN M path true)) := Lib.hid (by unfold doN; dsimp only; rw [if_neg (by decide)]; rw [if_neg (by decide)]; rw [if_neg (by decide)]; rw [if_neg (by decide)]; rw [if_pos rfl])
    generalize goneN M path true = r at *
    clear h hp ho hl hsrc hb hr hbw hB
    go_enter Tryz.func9, Tryz.ntmps9
    go_wp2_with fail
    refine HC.out.mono ?_
    rintro e w1 ⟨rfl, hl1⟩
    have HL := Lib.hid hl1
    clear hl1 HC
    go_wp2_with fail
    go_ret2
    rw [HRES.out]
    exact ⟨rfl, HL.out⟩
  by_cases h6 : kind = 6
  · subst h6
    have HC := Lib.hid (hB.rename old path ho hp)
    have HRES : Hid (doN M cap ⟨6, path, old, at_, data⟩ = (0, renameN M old path)) := Lib.hid (by unfold doN; dsimp only; rw [if_neg (by decide)]; rw [if_neg (by decide)]; rw [if_neg (by decide)]; rw [if_neg (by decide)]; rw [if_neg (by decide)]; rw [if_pos rfl])
    generalize renameN M old path = r at *
    clear h hp ho hl hsrc hb hr hbw hB
    go_enter Tryz.func9, Tryz.ntmps9
    go_wp2_with fail
    refine HC.out.mono ?_
    rintro e w1 ⟨rfl, hl1⟩
    have HL := Lib.hid hl1
    clear hl1 HC
    go_wp2_with fail
    go_ret2
    rw [HRES.out]
    exact ⟨rfl, HL.out⟩
  by_cases h7 : kind = 7
  · subst h7
    have HRES : Hid (doN M cap ⟨7, path, old, at_, data⟩ = (0, writeN M path at_ data)) := Lib.hid (by unfold doN; dsimp only; rw [if_neg (by decide)]; rw [if_neg (by decide)]; rw [if_neg (by decide)]; rw [if_neg (by decide)]; rw [if_neg (by decide)]; rw [if_neg (by decide)]; rw [if_pos rfl])
    obtain ⟨va0, vc0, hv0, -⟩ := id hsrc
    subst hv0
    obtain ⟨F0, hF0⟩ := hB.ft
    have hbx : (w.alloc (.cells #[.int .i64 7, .string path, .string old, .int .i64 at_, .slice va0 data.length vc0] 36)).heap[w.heap.size]? = some (.cells #[.int .i64 7, .string path, .string old, .int .i64 at_, .slice va0 data.length vc0] 36 (0, 0)) := blk_new rfl
    have HF0 := Lib.hid hF0; have HBX := Lib.hid hbx; have HP := Lib.hid hp; have HLEN := Lib.hid hl; have HR := Lib.hid hr; have HBY := Lib.hid hb
    have HSRC := Lib.hid ((hsrc.below hbw).below ((Below.refl (w.alloc (.cells #[.int .i64 7, .string path, .string old, .int .i64 at_, .slice va0 data.length vc0] 36)).heap.size (w.alloc (.cells #[.int .i64 7, .string path, .string old, .int .i64 at_, .slice va0 data.length vc0] 36))).alloc (Nat.le_refl _) (.cells #[] 5)))
    have OW : Hid (((w.alloc (.cells #[.int .i64 7, .string path, .string old, .int .i64 at_, .slice va0 data.length vc0] 36)).alloc (.cells #[] 5)).ownsRow (w.alloc (.cells #[.int .i64 7, .string path, .string old, .int .i64 at_, .slice va0 data.length vc0] 36)).heap.size 5 1 (.slice (some ⟨(w.alloc (.cells #[.int .i64 7, .string path, .string old, .int .i64 at_, .slice va0 data.length vc0] 36)).heap.size, 0, none⟩) 0 0) 0 []) := Lib.hid ⟨rfl, .inr ⟨(w.alloc (.cells #[.int .i64 7, .string path, .string old, .int .i64 at_, .slice va0 data.length vc0] 36)).heap.size, 0, #[], rfl, Nat.le_refl _, blk_new rfl, Nat.le_refl _, by decide, rfl, rfl⟩⟩
    have hzz : (w.alloc (.cells #[.int .i64 7, .string path, .string old, .int .i64 at_, .slice va0 data.length vc0] 36)).heap.size ≤ ((w.alloc (.cells #[.int .i64 7, .string path, .string old, .int .i64 at_, .slice va0 data.length vc0] 36)).alloc (.cells #[] 5)).heap.size := by simp
    have hs1 : (w.alloc (.cells #[.int .i64 7, .string path, .string old, .int .i64 at_, .slice va0 data.length vc0] 36)).heap.size = w.heap.size + 1 := by simp
    have HS1 := Lib.hid hs1
    have ow1 := OW.out
    rw [hs1] at ow1
    have OW1 : Hid (((w.alloc (.cells #[.int .i64 7, .string path, .string old, .int .i64 at_, .slice va0 data.length vc0] 36)).alloc (.cells #[] 5)).ownsRow (w.heap.size + 1) 5 1 (.slice (some ⟨w.heap.size + 1, 0, none⟩) 0 0) 0 []) := Lib.hid ow1
    have hz1 : w.heap.size + 1 ≤ ((w.alloc (.cells #[.int .i64 7, .string path, .string old, .int .i64 at_, .slice va0 data.length vc0] 36)).alloc (.cells #[] 5)).heap.size := by simp
    clear hs1 ow1
    clear h hF0 hbx hp ho hl hsrc hb hr hbw hB
    go_enter Tryz.func9, Tryz.ntmps9
    go_wp2_with (refine wpList_append_g (by rfl) (.tmp 57) (.tmp 59) (by rfl) elByte (by rfl) OW1.out (by rfl) HSRC.out (by have := HLEN.out; unfold maxLen; omega) (by have := HLEN.out; omega) hz1 ?_)
    intro v2 w2 ho2 hf2 hv2
    rw [← HS1.out] at ho2 hf2
    clear OW1 hz1
    have hszb : w.heap.size < (w.alloc (.cells #[.int .i64 7, .string path, .string old, .int .i64 at_, .slice va0 data.length vc0] 36)).heap.size := by simp
    generalize (w.alloc (.cells #[.int .i64 7, .string path, .string old, .int .i64 at_, .slice va0 data.length vc0] 36)) = wb at *
    have hbe : Below wb.heap.size wb w2 := ((Below.refl wb.heap.size wb).alloc (Nat.le_refl _) (.cells #[] 5)).trans (hf2.toBelow hzz fun y hy => (OW.out.lt y hy).1)
    have ho2 : w2.ownsRow wb.heap.size 5 1 v2 data.length (u8s data) := ho2
    have HF2 := Lib.hid (HF0.out.below hbe)
    have hbx2 := (hbe.block _ (blk_lt HBX.out)).trans HBX.out
    have hnf : ∀ g, v2.ownBlock = some g → ¬ F0 g := fun g hg hF => by
      have := (ho2.lt g hg).1
      have := HF0.out.lt g hF
      omega
    obtain ⟨va, vc, rfl⟩ := own_shape ho2
    obtain ⟨g, hg0, hg1, hrow⟩ := byteRow_own (w0 := wb) ho2 (fun u hu => by
      unfold u8s at hu
      obtain ⟨z, _, rfl⟩ := List.mem_map.1 hu
      exact ⟨z, rfl⟩) (Nat.le_refl _) (by have := hbe.size; have := hf2.size; simp at this; omega)
    have hgF : ¬ F0 g := fun hF => by have := HF0.out.lt g hF; omega
    have hC := write_any HF2.out.at_ HF2.out.good.1 path HP.out at_ HR.out (SrcG.of_own ho2 (u8s_one data)) (fun h0 a c ad e1 e2 hF => by
      injection e1 with e1 _ _
      subst e1
      rcases hrow with q | ⟨q, _⟩
      · omega
      · rw [q] at e2
        injection e2 with e2
        rw [← e2] at hF
        exact hgF hF) HLEN.out
    have HC := Lib.hid hC; have HGF := Lib.hid hgF; have HROW := Lib.hid hrow; have HG1 := Lib.hid hg1; have HG0 := Lib.hid hg0
    have HGW : Hid (w0.heap.size ≤ g) := Lib.hid (Nat.le_trans HF0.out.bel.size hg0)
    have HGD := Lib.hid (HF2.out.good.write path at_ HBY.out)
    have c1 := cell_blk_some hbx2 (i := 1) rfl
    have c3 := cell_blk_some hbx2 (i := 3) rfl
    generalize writeN M path at_ data = r at *
    clear ho2 hf2 hv2 hbe hbx2 hnf hrow hgF hC hg1 hg0 OW HSRC hzz HBX HF0 hszb
    go_wp2_with fail
    refine HC.out.mono ?_
    rintro e w3 ⟨rfl, hl3⟩
    have hg3 := hl3.2.block g HG1.out HGF.out
    have HROW3 : Hid (ByteRow w3 g data.length va) := Lib.hid (HROW.out.imp id fun ⟨q1, cur, q2, q3⟩ => ⟨q1, cur, by rw [hg3]; exact q2, q3⟩)
    obtain ⟨F', hF', hn'⟩ := HF2.out.left hl3 HGD.out
    have HF3 := Lib.hid hF'; have HN3 : Hid (¬ F' g) := Lib.hid (hn' g HG1.out HGF.out)
    clear hl3 hg3 hF' hn' HC HROW c1 c3
    generalize data.length = n at *
    have hn6 : n ≤ 1000000 := HLEN.out
    go_wp2_with fail
    go_loopw [70] (fun i wr => ∃ k : Nat, k ≤ n ∧ i = .int .i64 k ∧ Fr (fun x => x = g) w3 wr ∧ ByteRow wr g n va) (fun i _ => n - (RowKit.intOf i).toNat)
    case atStart => exact ⟨0, Nat.zero_le _, rfl, Fr.refl _ _, HROW3.out⟩
    case round =>
      obtain ⟨k, hk, rfl, hfr, hrw⟩ := hrel
      have HFR := Lib.hid hfr
      clear hfr HROW3
      by_cases hlt : k < n
      · rcases hrw with h0 | ⟨rfl, cur, hbb, hz⟩
        · omega
        · obtain ⟨z, hz1⟩ := hz k hlt
          have c1 := cell_blk_some hbb hz1
          have f1 := free_blk (i := k) hbb
          have hnew := blk_set (i := k) hbb (.int .u8 (IntKind.u8.wrap (z + 1)))
          have hks : k < cur.size := (Array.getElem?_eq_some_iff.1 hz1).1
          have hz2 : ∀ j, j < n → ∃ z', (cur.setIfInBounds k (.int .u8 (IntKind.u8.wrap (z + 1))))[j]? = some (.int .u8 z') := fun j hj => by
            by_cases hkj : k = j
            · subst hkj
              exact ⟨_, by rw [Array.getElem?_setIfInBounds, if_pos rfl, if_pos hks]⟩
            · rw [Array.getElem?_setIfInBounds, if_neg hkj]
              exact hz j hj
          have m1 : (k : Int) < (n : Int) := by omega
          have m2 : (0 : Int) ≤ (k : Int) := by omega
          have HN := Lib.hid hnew; have HZ := Lib.hid hz2
          clear hbb hz hz1 hnew hz2 hks
          go_wp2_with fail
          go_roundw
          case rel => exact ⟨k + 1, by omega, by go_num, HFR.out.setCell ⟨g, k, none⟩ rfl _, .inr ⟨rfl, _, HN.out, HZ.out⟩⟩
          case measure => simp [RowKit.intOf]; omega
      · obtain rfl : k = n := by omega
        have HEND := Lib.hid (HF3.out.other HFR.out (fun b hb => by rw [hb]; exact HGW.out) (fun b hb e => HN3.out (by rw [← e]; exact hb))).at0
        clear hrw HFR
        go_wp2_with fail
        go_ret2
        rw [HRES.out]
        exact ⟨rfl, HEND.out⟩
  by_cases h8 : kind = 8
  · subst h8
    have HC := Lib.hid (hB.trunc path hp at_ hr)
    have HRES : Hid (doN M cap ⟨8, path, old, at_, data⟩ = (0, truncN M path at_)) := Lib.hid (by unfold doN; dsimp only; rw [if_neg (by decide)]; rw [if_neg (by decide)]; rw [if_neg (by decide)]; rw [if_neg (by decide)]; rw [if_neg (by decide)]; rw [if_neg (by decide)]; rw [if_neg (by decide)]; rw [if_pos rfl])
    generalize truncN M path at_ = r at *
    clear h hp ho hl hsrc hb hr hbw hB
    go_enter Tryz.func9, Tryz.ntmps9
    go_wp2_with fail
    refine HC.out.mono ?_
    rintro e w1 ⟨rfl, hl1⟩
    have HL := Lib.hid hl1
    clear hl1 HC
    go_wp2_with fail
    go_ret2
    rw [HRES.out]
    exact ⟨rfl, HL.out⟩
  have q1 : (kind == 1) = false := by simp [h1]
  have q2 : (kind == 2) = false := by simp [h2]
  have q3 : (kind == 3) = false := by simp [h3]
  have q4 : (kind == 4) = false := by simp [h4]
  have q5 : (kind == 5) = false := by simp [h5]
  have q6 : (kind == 6) = false := by simp [h6]
  have q7 : (kind == 7) = false := by simp [h7]
  have q8 : (kind == 8) = false := by simp [h8]
  have HRES : Hid (doN M cap ⟨kind, path, old, at_, data⟩ = (0, 0, M)) := Lib.hid (by
    unfold doN
    rw [if_neg h1, if_neg h2, if_neg h3, if_neg h4, if_neg h5, if_neg h6, if_neg h7, if_neg h8])
  have HL := Lib.hid hB
  clear h h1 h2 h3 h4 h5 h6 h7 h8 hp ho hl hsrc hb hr hbw hB
  go_enter Tryz.func9, Tryz.ntmps9
  go_wp2_with fail
  go_ret2
  rw [HRES.out]
  exact ⟨rfl, HL.out⟩
end
end Go.Proofs.YtoofcnehoffllaaGreat
