/- Walk of the reference's cut. -/
/- Walk of the reference's Links. -/
/- The reference's drop. -/
import Derived.Test.YtoofcnehoffllaaGreatR6
import Derived.Test.YtoofcnehoffllaaGreatT32
namespace Go.Proofs.YtoofcnehoffllaaGreat
open Go.RowKit

/-- The entries but those of a name. -/
def cutL (s : ByteArray) (L : List (ByteArray × Nat)) : List (ByteArray × Nat) := L.filter fun x => decide (x.1 ≠ s)
theorem EntL.cut {f : ByteArray → Option Nat} {L : List (ByteArray × Nat)} (h : EntL f L) (s : ByteArray) : EntL (updE f s none) (cutL s L) := by
  obtain ⟨hp, hm⟩ := h
  refine ⟨List.pairwise_map.2 ((List.pairwise_map.1 hp).filter _), fun t j => ?_⟩
  unfold cutL updE
  rw [List.mem_filter, hm]
  by_cases e : t = s
  · rw [if_pos e]; simp [e]
  · rw [if_neg e]; simp [e]
section
variable {D : Nat → Prop} {w w' : World} {v : Value} {cap : Nat} {K : RM}
set_option maxHeartbeats 4000000 in
set_option maxRecDepth 100000 in
theorem cut_any (h : RefIs D w v cap K) {d : Nat} (hd : d < cap) (s : ByteArray) :
    Calls Tryz.prog 60 #[treeV v, .int .i64 d, .string s] w fun e w' => ∃ v', e = .returned (treeV v') ∧ RefIs (fun b => D b ∨ w.heap.size ≤ b) w' v' cap (setK K d ⟨(K d).kd, (K d).dt, updE (K d).en s none⟩) ∧ Below w.heap.size w w' := by
  have hcap := h.1
  obtain ⟨g, c, hvv, hD, hg, hn⟩ := h.at_
  subst hvv
  obtain ⟨ev, c0, c1, c2, L, hL, hlen, a, ce, rfl, hr⟩ := hn d hd
  have H := Lib.hid h; have HL := Lib.hid hL; have HR := Lib.hid hr
  clear h hL hr hn
  have d0 : (0 : Int) ≤ (d : Int) := by omega
  have d1 : (d : Int) < (cap : Int) := by omega
  unfold treeV
  go_enter Tryz.func60, Tryz.ntmps60
  have HF := Lib.hid (three_new w (.cells #[.slice (some ⟨g, 0, none⟩) cap c] 30 (0, 0)) (.cells #[.slice none 0 0] 30 (0, 0)) (.cells #[.int .i64 (K d).kd, .string (strOfNums (K d).dt), .slice a L.length ce] 74 (0, 0)))
  go_wp2_with fail
  obtain ⟨w3, hw3⟩ : ∃ w3, w3 = ((w.alloc (.cells #[.slice (some ⟨g, 0, none⟩) cap c] 30 (0, 0))).alloc (.cells #[.slice none 0 0] 30 (0, 0))).alloc (.cells #[.int .i64 (K d).kd, .string (strOfNums (K d).dt), .slice a L.length ce] 74 (0, 0)) := ⟨_, rfl⟩
  rw [← hw3] at HF ⊢
  clear hw3
  go_loopw [8, 18] (fun lv idx wy => ∃ (k : Nat), k ≤ L.length ∧ idx = .int .i64 k ∧ PutSt w3 wy lv (cutL s (L.take k))) (fun _ idx _ => L.length - (RowKit.intOf idx).toNat)
  case atStart => exact ⟨0, by omega, rfl, ⟨rfl, .inl ⟨rfl, rfl⟩⟩, Below.refl _ _⟩
  case round =>
    obtain ⟨k, hk, rfl, hst⟩ := hrel
    have HST := Lib.hid hst
    have hbw := hst.bel
    have b1 := (hbw.block (w.heap.size + 1 + 1) (blk_lt HF.out.2.2.2.1)).trans HF.out.2.2.2.1
    have k2 := cell_blk_some b1 (i := 2) rfl
    have hrl : (cutL s (L.take k)).length ≤ L.length := by
      have h1 : (cutL s (L.take k)).length ≤ (L.take k).length := List.length_filter_le _ _
      rw [List.length_take] at h1
      omega
    have HRL := Lib.hid hrl
    clear hst b1 hbw hrl
    by_cases hlt : k < L.length
    · obtain ⟨ge, oe, rfl, hDe, hge, hcell⟩ := HR.out (by omega)
      obtain ⟨x, hx⟩ : ∃ x, L[k]? = some x := ⟨_, List.getElem?_eq_getElem hlt⟩
      obtain ⟨e0, e1⟩ := hcell k x hx
      have HX := Lib.hid hx
      have HBW := Lib.hid (HF.out.1.trans (HST.out.bel.mono HF.out.1.size))
      have p0 := (World.cell?_of_block (w := w) (a := ⟨ge, oe + k * 2, none⟩) (HBW.out.block ge hge)).trans e0
      have p1 := (World.cell?_of_block (w := w) (a := ⟨ge, oe + k * 2 + 1, none⟩) (HBW.out.block ge hge)).trans e1
      clear hx hcell e0 e1 hge
      have hk0 : (0 : Int) ≤ (k : Int) := by omega
      have hk1 : (k : Int) < (L.length : Int) := by omega
      by_cases he : x.1 = s
      · have hq : (x.1.toList == s.toList) = true := str_eq he
        have HE : Hid (cutL s (L.take (k + 1)) = cutL s (L.take k)) := Lib.hid (by rw [take_succ' HX.out]; unfold cutL; rw [List.filter_append]; simp [he])
        clear he
        go_wp2_with fail
        go_roundw
        case rel => exact ⟨k + 1, by omega, by go_num, by rw [HE.out]; exact HST.out⟩
        case measure => simp only [RowKit.intOf]; omega
      · have hq : (x.1.toList == s.toList) = false := str_ne he
        have HE : Hid (cutL s (L.take (k + 1)) = cutL s (L.take k) ++ [x]) := Lib.hid (by rw [take_succ' HX.out]; unfold cutL; rw [List.filter_append]; simp [he])
        have HOA := Lib.hid (own_frame HST.out.own (S := fun _ => False) ((Fr.refl _ wr).alloc (.cells #[.string x.1, .int .i64 x.2] 95 (0, 0))) fun _ _ => id)
        clear he
        go_wp2_with (refine wpList_append_g (by rfl) (.tmp 29) (.tmp 35) (by rfl) elEnt (by rfl) HOA.out (by rfl) (srcE wr x) (by have := HRL.out; unfold maxLen; omega) (by have := HRL.out; omega) (own_low HST.out) ?_)
        rintro v' w' h2 h3 -
        have HP2 := Lib.hid (HST.out.push h2 h3)
        clear h2 h3 HOA
        go_wp2_with fail
        go_roundw
        case rel => exact ⟨k + 1, by omega, by go_num, by rw [HE.out]; exact HP2.out⟩
        case measure => simp only [RowKit.intOf]; omega
    · obtain rfl : k = L.length := by omega
      rw [List.take_length] at HST HRL
      have HEN := Lib.hid (HL.out.cut s)
      clear hk hlt c0 c1 c2
      obtain ⟨la, lc, rfl⟩ := own_shape HST.out.own
      obtain ⟨z0, z1, z2, z3, z4, z5⟩ := put_last H.out hd HST.out HEN.out (by have := HRL.out; omega) HF.out
      have HW := Lib.hid z5
      clear z5 HL k2
      go_wp2_with fail
      refine HW.out.mono ?_
      rintro e w6 ⟨a6, c6, rfl, y0, y1, y2, y3, y4⟩
      have HY2 := Lib.hid y2; have HY3 := Lib.hid y3; have HY4 := Lib.hid y4
      clear z0 z1 z2 z3 z4 y2 y3 y4
      go_wp2_with fail
      refine bodyPost_ret (results_cell_row rfl _ _ (w.heap.size + 1) _ _ _ _ rfl HY4.out Tryz.underlying30 rfl (by kernel_rfl)) rfl ?_
      exact ⟨_, rfl, HY2.out, HY3.out⟩
end
end Go.Proofs.YtoofcnehoffllaaGreat

namespace Go.Proofs.YtoofcnehoffllaaGreat
open Go.RowKit

/-- How often an inode is named by entries; the root once more. -/
def cntL (L : List (ByteArray × Nat)) (ino : Nat) : Nat := L.countP fun x => decide (x.2 = ino)
def LinksIs (K : RM) (cap ino n : Nat) : Prop := ∃ Ls : Nat → List (ByteArray × Nat), (∀ d, d < cap → EntL (K d).en (Ls d)) ∧ n = (if ino = 2 then 1 else 0) + ((List.range cap).map fun d => cntL (Ls d) ino).sum
def sumL (Ls : Nat → List (ByteArray × Nat)) (ino d : Nat) : Nat := ((List.range d).map fun i => cntL (Ls i) ino).sum
theorem sumL_succ {Ls : Nat → List (ByteArray × Nat)} {ino d : Nat} : sumL Ls ino (d + 1) = sumL Ls ino d + cntL (Ls d) ino := by
  unfold sumL
  rw [List.range_succ, List.map_append, List.sum_append]
  simp
section
variable {D : Nat → Prop} {w w' : World} {v : Value} {cap : Nat} {K : RM}
set_option maxHeartbeats 4000000 in
set_option maxRecDepth 100000 in
theorem links_any (h : RefIs D w v cap K) (ino : Nat) :
    Calls Tryz.prog 38 #[treeV v, .int .i64 ino] w fun e w' => ∃ n : Nat, e = .returned (.int .i64 n) ∧ LinksIs K cap ino n ∧ Below w.heap.size w w' := by
  have hcap := h.1
  obtain ⟨g, c, hvv, hD, hg, hn⟩ := h.at_
  subst hvv
  have hall : ∃ Ls : Nat → List (ByteArray × Nat), ∀ d, d < cap → EntL (K d).en (Ls d) ∧ (Ls d).length ≤ 1000000 ∧ ∃ a ce, w.cell? ⟨g, d * 3 + 2, none⟩ = some (.slice a (Ls d).length ce) ∧ (0 < (Ls d).length → ∃ ge oe, a = some ⟨ge, oe, none⟩ ∧ ge < w.heap.size ∧ ∀ k x, (Ls d)[k]? = some x → w.cell? ⟨ge, oe + k * 2 + 1, none⟩ = some (.int .i64 x.2)) := by
    have key : ∀ d, ∃ L : List (ByteArray × Nat), d < cap → EntL (K d).en L ∧ L.length ≤ 1000000 ∧ ∃ a ce, w.cell? ⟨g, d * 3 + 2, none⟩ = some (.slice a L.length ce) ∧ (0 < L.length → ∃ ge oe, a = some ⟨ge, oe, none⟩ ∧ ge < w.heap.size ∧ ∀ k x, L[k]? = some x → w.cell? ⟨ge, oe + k * 2 + 1, none⟩ = some (.int .i64 x.2)) := fun d => by
      by_cases hd : d < cap
      · obtain ⟨ev, c0, c1, c2, L, hL, hlen, a, ce, rfl, hr⟩ := hn d hd
        refine ⟨L, fun _ => ⟨hL, hlen, a, ce, c2, fun h0 => ?_⟩⟩
        obtain ⟨ge, oe, h1, -, h3, h4⟩ := hr h0
        exact ⟨ge, oe, h1, h3, fun k x hx => (h4 k x hx).2⟩
      · exact ⟨[], fun h => absurd h hd⟩
    exact ⟨fun d => (key d).choose, fun d => (key d).choose_spec⟩
  obtain ⟨Ls, hLs⟩ := hall
  have HL := Lib.hid hLs
  clear h hn hLs
  unfold treeV
  go_enter Tryz.func38, Tryz.ntmps38
  have hsum : ∀ d, d ≤ cap → sumL Ls ino d ≤ d * 1000000 := fun d => by
    induction d with
    | zero => intro _; unfold sumL; simp
    | succ d ih =>
      intro hd
      rw [sumL_succ]
      have h1 := ih (by omega)
      have h2 : cntL (Ls d) ino ≤ (Ls d).length := List.countP_le_length
      have h3 := (HL.out d (by omega)).2.1
      omega
  have HSU := Lib.hid hsum
  obtain ⟨ht1, ht2⟩ := top_new w (.slice (some ⟨g, 0, none⟩) cap c)
  have HB0 := Lib.hid ht1
  have c0 := cell_blk_some ht2 (i := 0) rfl
  clear hsum ht1 ht2
  obtain ⟨bs, hbs⟩ : ∃ bs : Nat, bs = if ino = 2 then 1 else 0 := ⟨_, rfl⟩
  have HBS := Lib.hid hbs
  have hb1 : bs ≤ 1 := by rw [hbs]; split <;> omega
  have hway : (((ino : Int) == 2) = true ∧ bs = 1) ∨ (((ino : Int) == 2) = false ∧ bs = 0) := by
    by_cases h2 : ino = 2
    · exact .inl ⟨by simp; omega, by rw [hbs, if_pos h2]⟩
    · exact .inr ⟨by simp; omega, by rw [hbs, if_neg h2]⟩
  clear hbs
  rcases hway with ⟨hq, rfl⟩ | ⟨hq, rfl⟩
  all_goals
    go_wp2_with fail
    generalize hw0 : w.alloc (.cells #[.slice (some ⟨g, 0, none⟩) cap c] 30) = w0 at *
    clear hw0 hq
    go_loop [5, 13] (fun nv dv => ∃ (d N : Nat), d ≤ cap ∧ dv = .int .i64 d ∧ nv = .int .i64 N ∧ N = _ + sumL Ls ino d) (fun _ dv => cap - (RowKit.intOf dv).toNat)
    case atStart => exact ⟨0, _, by omega, rfl, rfl, rfl⟩
    case round =>
      obtain ⟨d, N, hd, rfl, rfl, hN⟩ := hrel
      have hS := HSU.out d hd
      by_cases hdc : d < cap
      · obtain ⟨hEL, hlen, a, ce, cc, hr⟩ := HL.out d hdc
        have d0 : (0 : Int) ≤ (d : Int) := by omega
        have d1 : (d : Int) < (cap : Int) := by omega
        have c1 := (World.cell?_of_block (w := w) (a := ⟨g, d * 3 + 2, none⟩) (HB0.out.block g hg)).trans cc
        have HR := Lib.hid hr; have HN := Lib.hid hN; have HS := Lib.hid hS
        clear hr hN hS hEL cc
        go_wp2_with fail
        go_loop [5, 23] (fun nv kv => ∃ (k N2 : Nat), k ≤ (Ls d).length ∧ kv = .int .i64 k ∧ nv = .int .i64 N2 ∧ N2 = N + cntL ((Ls d).take k) ino) (fun _ kv => (Ls d).length - (RowKit.intOf kv).toNat)
        case atStart => exact ⟨0, N, by omega, rfl, rfl, rfl⟩
        case round =>
          obtain ⟨k, N2, hk, rfl, rfl, hN2⟩ := hrel
          have hcl : cntL ((Ls d).take k) ino ≤ k := by
            have h1 : cntL ((Ls d).take k) ino ≤ ((Ls d).take k).length := List.countP_le_length
            rw [List.length_take] at h1
            omega
          have hN3 : N2 ≤ 300000000 := by have := HN.out; have := HS.out; omega
          have HN2 := Lib.hid hN2
          clear hN2 hcl
          by_cases hkl : k < (Ls d).length
          · obtain ⟨ge, oe, rfl, hge, hcell⟩ := HR.out (by omega)
            obtain ⟨x, hx⟩ : ∃ x, (Ls d)[k]? = some x := ⟨_, List.getElem?_eq_getElem hkl⟩
            have p1 := (World.cell?_of_block (w := w) (a := ⟨ge, oe + k * 2 + 1, none⟩) (HB0.out.block ge hge)).trans (hcell k x hx)
            have k0 : (0 : Int) ≤ (k : Int) := by omega
            have k1 : (k : Int) < ((Ls d).length : Int) := by omega
            have hstep : cntL ((Ls d).take (k + 1)) ino = cntL ((Ls d).take k) ino + if x.2 = ino then 1 else 0 := by
              rw [take_succ' hx]
              unfold cntL
              rw [List.countP_append, List.countP_singleton]
              by_cases e : x.2 = ino <;> simp [e]
            have HST := Lib.hid hstep
            clear hcell hx hstep
            by_cases e : x.2 = ino
            · have hq : ((x.2 : Int) == (ino : Int)) = true := by simp; omega
              have hw : IntKind.i64.wrap ((N2 : Int) + 1) = (N2 : Int) + 1 := IntWalk.i64_in _ (by omega)
              have hE : Hid (cntL ((Ls d).take (k + 1)) ino = cntL ((Ls d).take k) ino + 1) := Lib.hid (by rw [HST.out, if_pos e])
              clear e HST
              go_wp2_with fail
              go_round
              case rel => exact ⟨k + 1, N2 + 1, by omega, by go_num, rfl, by rw [hE.out, HN2.out]; omega⟩
              case measure => simp only [RowKit.intOf]; omega
            · have hq : ((x.2 : Int) == (ino : Int)) = false := by simp; omega
              have hE : Hid (cntL ((Ls d).take (k + 1)) ino = cntL ((Ls d).take k) ino) := Lib.hid (by rw [HST.out, if_neg e]; rfl)
              clear e HST
              go_wp2_with fail
              go_round
              case rel => exact ⟨k + 1, N2, by omega, by go_num, rfl, by rw [hE.out, HN2.out]⟩
              case measure => simp only [RowKit.intOf]; omega
          · obtain rfl : k = (Ls d).length := by omega
            rw [List.take_length] at HN2
            go_wp2_with fail
            go_round
            case rel => exact ⟨d + 1, N2, by omega, by go_num, rfl, by rw [HN2.out, HN.out, sumL_succ]; omega⟩
            case measure => simp only [RowKit.intOf]; omega
      · obtain rfl : d = cap := by omega
        have HN := Lib.hid hN
        clear hN hS
        go_wp2_with fail
        go_ret
        exact ⟨N, rfl, ⟨Ls, fun d hd => (HL.out d hd).1, by rw [HN.out, ← HBS.out]; rfl⟩, HB0.out⟩
end
end Go.Proofs.YtoofcnehoffllaaGreat

namespace Go.Proofs.YtoofcnehoffllaaGreat
open Go.RowKit

theorem RN.eq {x y : RN} (h1 : x.kd = y.kd) (h2 : x.dt = y.dt) (h3 : ∀ s, x.en s = y.en s) : x = y := by
  cases x; cases y
  dsimp only at h1 h2 h3
  rw [h1, h2, funext h3]
theorem refM_eq (M : TM) (x : Nat) : refM M x = ⟨if isDir M x then 2 else if (M x).isSome then 1 else 0, datN M x, fun s => entN M x s⟩ := by
  have h1 := refM_kd (M := M) (i := x)
  have h2 : (refM M x).dt = datN M x := by unfold refM datN; cases M x <;> rfl
  have h3 : (refM M x).en = fun s => entN M x s := by funext s; exact refM_en
  cases hr : refM M x with
  | mk a b c =>
    rw [hr] at h1 h2 h3
    dsimp only at h1 h2 h3
    rw [h1, h2, h3]
theorem refM_same {M M' : TM} {x : Nat} (h1 : isDir M' x = isDir M x) (h2 : (M' x).isSome = (M x).isSome) (h3 : datN M' x = datN M x) (h4 : ∀ s, entN M' x s = entN M x s) : refM M' x = refM M x := by
  rw [refM_eq, refM_eq, h1, h2, h3]
  have : (fun s => entN M' x s) = fun s => entN M x s := by funext s; exact h4 s
  rw [this]
theorem names_perm {e : EM} {L L' : List (Nat × ByteArray)} (h : Names e L) (h' : Names e L') : L.Perm L' :=
  (List.perm_ext_iff_of_nodup h.1 h'.1).2 fun x => (h.2 x).trans (h'.2 x).symm
theorem entL_nodup {f : ByteArray → Option Nat} {L : List (ByteArray × Nat)} (h : EntL f L) : (L.map fun x => x.1).Nodup := by
  have h1 := List.pairwise_map.1 h.1
  rw [List.Nodup, List.pairwise_map]
  exact h1.imp fun {a b} hab e => by rw [e] at hab; exact List.lt_irrefl _ hab
/-- The names of directories below n, as their rows tell them. -/
def namesTo (Ls : Nat → List (ByteArray × Nat)) (n : Nat) : List (Nat × ByteArray) := (List.range n).flatMap fun d => (Ls d).map fun x => (d, x.1)
theorem namesTo_succ {Ls : Nat → List (ByteArray × Nat)} {n : Nat} : namesTo Ls (n + 1) = namesTo Ls n ++ (Ls n).map fun x => (n, x.1) := by
  unfold namesTo
  rw [List.range_succ, List.flatMap_append]
  simp
theorem namesTo_ok {K : RM} {cap : Nat} {Ls : Nat → List (ByteArray × Nat)} (h : ∀ d, d < cap → EntL (K d).en (Ls d)) (ino : Nat) : ∀ n, n ≤ cap →
    (namesTo Ls n).Nodup ∧ (∀ x, x ∈ namesTo Ls n ↔ x.1 < n ∧ ((K x.1).en x.2).isSome = true) ∧ (namesTo Ls n).countP (fun x => (K x.1).en x.2 == some ino) = sumL Ls ino n
  | 0, _ => ⟨List.nodup_nil, fun x => Iff.intro (fun h => by cases h) (fun h => by omega), rfl⟩
  | n + 1, hn => by
    obtain ⟨h1, h2, h3⟩ := namesTo_ok h ino n (by omega)
    have hE := h n (by omega)
    rw [namesTo_succ, sumL_succ]
    refine ⟨List.nodup_append.2 ⟨h1, ?_, fun x hx y hy e => ?_⟩, fun x => ?_, ?_⟩
    · rw [List.Nodup, List.pairwise_map]
      have := entL_nodup hE
      rw [List.Nodup, List.pairwise_map] at this
      exact this.imp fun {a b} hab e => hab (by injection e)
    · obtain ⟨z, -, rfl⟩ := List.mem_map.1 hy
      rw [e] at hx
      have := ((h2 _).1 hx).1
      exact absurd this (Nat.lt_irrefl _)
    · rw [List.mem_append, h2, List.mem_map]
      constructor
      · rintro (⟨a, b⟩ | ⟨z, hz, rfl⟩)
        · exact ⟨by omega, b⟩
        · exact ⟨Nat.lt_succ_self _, by rw [(hE.2 z.1 z.2).1 hz]; rfl⟩
      · rintro ⟨a, b⟩
        by_cases e : x.1 = n
        · refine .inr ?_
          obtain ⟨j, hj⟩ := Option.isSome_iff_exists.1 b
          rw [e] at hj
          exact ⟨(x.2, j), (hE.2 _ _).2 hj, Prod.ext e.symm rfl⟩
        · exact .inl ⟨by omega, b⟩
    · rw [List.countP_append, h3, List.countP_map]
      congr 1
      unfold cntL
      refine List.countP_congr fun x hx => ?_
      have := (hE.2 x.1 x.2).1 hx
      simp only [Function.comp, this, beq_iff_eq, Option.some.injEq, decide_eq_true_eq]
/-- What Links tells is how many names there are. -/
theorem LinksIs.num {K : RM} {cap ino n : Nat} (h : LinksIs K cap ino n) (hz : ∀ d, cap ≤ d → ∀ s, (K d).en s = none) {L : List (Nat × ByteArray)} (hL : Names (fun d s => (K d).en s) L) : n = (if ino = 2 then 1 else 0) + numL (fun d s => (K d).en s) L ino := by
  obtain ⟨Ls, hE, rfl⟩ := h
  obtain ⟨h1, h2, h3⟩ := namesTo_ok hE ino cap (Nat.le_refl _)
  have hN : Names (fun d s => (K d).en s) (namesTo Ls cap) := ⟨h1, fun x => by
    rw [h2]
    constructor
    · exact fun h => h.2
    · intro h
      refine ⟨?_, h⟩
      apply Classical.byContradiction
      intro hc
      have := hz x.1 (by omega) x.2
      dsimp only at h
      rw [this] at h; cases h⟩
  congr 1
  unfold numL
  rw [(names_perm hL hN).countP_eq]
  exact h3.symm
theorem EntRow.nil {D : Nat → Prop} {w : World} : EntRow D w (.slice none 0 0) (fun _ => none) :=
  ⟨[], ⟨.nil, fun s j => Iff.intro (fun h => by cases h) (fun h => by cases h)⟩, by simp, none, 0, rfl, fun h => by simp at h⟩
theorem RefIs.store {D : Nat → Prop} {w : World} {v : Value} {cap : Nat} {K : RM} (h : RefIs D w v cap K) {b : Nat} (hb : ¬ D b) (u : Value) : RefIs D (w.setCell ⟨b, 0, none⟩ u) v cap K :=
  h.fr ((Fr.refl (fun x => x = b) w).setCell ⟨b, 0, none⟩ rfl u) fun x hx e => hb (by rw [← e]; exact hx)
/-- Two new blocks. -/
theorem two_new (w : World) (a b : Obj) : Below w.heap.size w ((w.alloc a).alloc b) ∧ ((w.alloc a).alloc b).heap[w.heap.size]? = some a ∧ ((w.alloc a).alloc b).heap[w.heap.size + 1]? = some b ∧ ((w.alloc a).alloc b).heap.size = w.heap.size + 2 := by
  refine ⟨((Below.refl _ w).alloc (Nat.le_refl _) _).alloc (by simp) _, ?_, ?_, by simp⟩
  · show ((w.heap.push _).push _)[_]? = _
    rw [Array.getElem?_push, if_neg (by simp <;> omega), Array.getElem?_push, if_pos rfl]
  · show ((w.heap.push _).push _)[_]? = _
    rw [Array.getElem?_push, if_pos (by simp)]
section
variable {D : Nat → Prop} {w w' : World} {v : Value} {cap : Nat} {M : TM}
theorem ent_lt (hk : TOk M cap) {d : Nat} (hd : cap ≤ d) (s : ByteArray) : entN M d s = none := by
  cases h : entN M d s with
  | none => rfl
  | some j =>
    obtain ⟨nd, f, hm, _⟩ := isDir_there (ent_dir h)
    have := (hk.low d nd hm).2
    omega
/-- How often an inode is named, as its links say. -/
theorem links_lk (hG : TG M cap) {i : Nat} (hi : (M i).isSome = true) {n : Nat} (h : LinksIs (refM M) cap i n) : (n : Int) = lkN M i := by
  obtain ⟨L, hL, hl⟩ := hG.nms
  have he : (fun d s => (refM M d).en s) = entN M := by funext d s; exact refM_en
  have hn := h.num (fun d hd s => by rw [refM_en]; exact ent_lt hG.ok hd s) (L := L) (by rw [he]; exact hL)
  rw [he] at hn
  by_cases h2 : i = 2
  · subst h2
    have h0 : numL (entN M) L 2 = 0 := by
      unfold numL
      rw [List.countP_eq_zero]
      intro x _ hc
      rw [beq_iff_eq] at hc
      exact hG.noroot _ _ hc
    rw [h0, if_pos rfl] at hn
    rw [((hG.lk 2 hi).2.2 hG.ok.root).1, hn]; rfl
  · rw [if_neg h2] at hn
    rw [hl i hi h2]; omega
/-- The tree behind a cut of a name. -/
theorem cut_names (hG : TG M cap) {p i : Nat} {s : ByteArray} (hs : entN M p s = some i) {n : Nat} (h : LinksIs (setK (refM M) p ⟨(refM M p).kd, (refM M p).dt, updE (refM M p).en s none⟩) cap i n) : (n : Int) + 1 = lkN M i := by
  obtain ⟨L, hL, hl⟩ := hG.nms
  obtain ⟨L', hL', hj⟩ := num_del hL hs
  have he : (fun d t => (setK (refM M) p ⟨(refM M p).kd, (refM M p).dt, updE (refM M p).en s none⟩ d).en t) = putE (entN M) p s none := by
    funext d t
    unfold setK putE
    by_cases e : d = p
    · subst e
      rw [if_pos rfl]
      dsimp only
      unfold updE
      by_cases e2 : t = s
      · rw [if_pos e2, if_pos ⟨rfl, e2⟩]
      · rw [if_neg e2, if_neg (fun h => e2 h.2), refM_en]
    · rw [if_neg e, if_neg (fun h => e h.1), refM_en]
  have hn := h.num (fun d hd t => by
    have h0 := congrFun (congrFun he d) t
    have h0 : (setK (refM M) p ⟨(refM M p).kd, (refM M p).dt, updE (refM M p).en s none⟩ d).en t = putE (entN M) p s none d t := h0
    rw [h0]
    unfold putE
    split
    · rfl
    · exact ent_lt hG.ok hd t) (L := L') (by rw [he]; exact hL')
  rw [he] at hn
  have hi := hG.ok.ent p s i hs
  have h2 : i ≠ 2 := fun e => hG.noroot p s (by rw [← e]; exact hs)
  rw [if_neg h2] at hn
  have := hj i
  rw [if_pos rfl] at this
  rw [hl i hi h2]
  omega
theorem refM_cut {p i : Nat} {s : ByteArray} {nd : Nd} (hm : M i = some nd) (hs : entN M p s = some i) (hno : ∀ t, entN M i t = none) (h1 : nd.links ≠ 1) : setK (refM M) p ⟨(refM M p).kd, (refM M p).dt, updE (refM M p).en s none⟩ = refM (dropT M p s i) := by
  obtain ⟨he, hd⟩ := drop_ent hm hs hno
  have hsm := drop_some hm hs
  have hlk := drop_lk hm hs
  have hss : ∀ x, (dropT M p s i x).isSome = (M x).isSome := fun x => by
    rw [hsm x]
    by_cases e : x = i
    · rw [if_pos e, e, hm]; simp [h1]
    · rw [if_neg e]
  have hdd : ∀ x, isDir (dropT M p s i) x = isDir M x := fun x => by
    by_cases hx : (dropT M p s i x).isSome = true
    · exact hd x hx
    · have h2 : (M x).isSome = false := by rw [← hss x]; simpa using hx
      have h3 : (dropT M p s i x).isSome = false := by simpa using hx
      unfold isDir
      cases ha : M x with
      | some _ => rw [ha] at h2; cases h2
      | none => cases hb : dropT M p s i x with
        | some _ => rw [hb] at h3; cases h3
        | none => rfl
  have hdt : ∀ x, datN (dropT M p s i) x = datN M x := fun x => by
    by_cases hx : (dropT M p s i x).isSome = true
    · exact (hlk x hx).2
    · have h2 : (M x).isSome = false := by rw [← hss x]; simpa using hx
      have h3 : (dropT M p s i x).isSome = false := by simpa using hx
      unfold datN
      cases ha : M x with
      | some _ => rw [ha] at h2; cases h2
      | none => cases hb : dropT M p s i x with
        | some _ => rw [hb] at h3; cases h3
        | none => rfl
  funext x
  unfold setK
  by_cases e : x = p
  · subst e
    rw [if_pos rfl]
    refine RN.eq ?_ ?_ fun t => ?_
    · rw [refM_eq (dropT M x s i), refM_eq M]
      dsimp only
      rw [hdd, hss]
    · rw [refM_eq (dropT M x s i), refM_eq M]
      dsimp only
      rw [hdt]
    · show updE (refM M x).en s none t = (refM (dropT M x s i) x).en t
      rw [refM_en, he]
      unfold updE putE
      by_cases e2 : t = s
      · rw [if_pos e2, if_pos ⟨rfl, e2⟩]
      · rw [if_neg e2, if_neg (fun h => e2 h.2), refM_en]
  · rw [if_neg e]
    refine (refM_same (hdd x) (hss x) (hdt x) fun t => ?_).symm
    rw [he, putE_other (fun h => e h.1)]
theorem refM_kill {p i : Nat} {s : ByteArray} {nd : Nd} (hm : M i = some nd) (hs : entN M p s = some i) (hno : ∀ t, entN M i t = none) (h1 : nd.links = 1) : setK (setK (refM M) p ⟨(refM M p).kd, (refM M p).dt, updE (refM M p).en s none⟩) i ⟨0, [], fun _ => none⟩ = refM (dropT M p s i) := by
  obtain ⟨he, hd⟩ := drop_ent hm hs hno
  have hsm := drop_some hm hs
  have hlk := drop_lk hm hs
  have hip : i ≠ p := fun e => by have := hno s; rw [e, hs] at this; cases this
  funext x
  by_cases ei : x = i
  · have hn : dropT M p s i x = none := by
      have := hsm x
      rw [if_pos ei, h1] at this
      cases hb : dropT M p s i x with
      | some _ => rw [hb] at this; simp at this
      | none => rfl
    have h2 : setK (setK (refM M) p ⟨(refM M p).kd, (refM M p).dt, updE (refM M p).en s none⟩) i ⟨0, [], fun _ => none⟩ x = ⟨0, [], fun _ => none⟩ := if_pos ei
    rw [h2]
    unfold refM
    rw [hn]
  · have h2 : setK (setK (refM M) p ⟨(refM M p).kd, (refM M p).dt, updE (refM M p).en s none⟩) i ⟨0, [], fun _ => none⟩ x = setK (refM M) p ⟨(refM M p).kd, (refM M p).dt, updE (refM M p).en s none⟩ x := if_neg ei
    rw [h2]
    have hss : (dropT M p s i x).isSome = (M x).isSome := by rw [hsm x, if_neg ei]
    have hdd : isDir (dropT M p s i) x = isDir M x := by
      by_cases hx : (dropT M p s i x).isSome = true
      · exact hd x hx
      · have h2 : (M x).isSome = false := by rw [← hss]; simpa using hx
        have h3 : (dropT M p s i x).isSome = false := by simpa using hx
        unfold isDir
        cases ha : M x with
        | some _ => rw [ha] at h2; cases h2
        | none => cases hb : dropT M p s i x with
          | some _ => rw [hb] at h3; cases h3
          | none => rfl
    have hdt : datN (dropT M p s i) x = datN M x := by
      by_cases hx : (dropT M p s i x).isSome = true
      · exact (hlk x hx).2
      · have h2 : (M x).isSome = false := by rw [← hss]; simpa using hx
        have h3 : (dropT M p s i x).isSome = false := by simpa using hx
        unfold datN
        cases ha : M x with
        | some _ => rw [ha] at h2; cases h2
        | none => cases hb : dropT M p s i x with
          | some _ => rw [hb] at h3; cases h3
          | none => rfl
    unfold setK
    by_cases e : x = p
    · subst e
      rw [if_pos rfl]
      refine RN.eq ?_ ?_ fun t => ?_
      · rw [refM_eq (dropT M x s i), refM_eq M]
        dsimp only
        rw [hdd, hss]
      · rw [refM_eq (dropT M x s i), refM_eq M]
        dsimp only
        rw [hdt]
      · show updE (refM M x).en s none t = (refM (dropT M x s i) x).en t
        rw [refM_en, he]
        unfold updE putE
        by_cases e2 : t = s
        · rw [if_pos e2, if_pos ⟨rfl, e2⟩]
        · rw [if_neg e2, if_neg (fun h => e2 h.2), refM_en]
    · rw [if_neg e]
      refine (refM_same hdd hss hdt fun t => ?_).symm
      rw [he, putE_other (fun h => e h.1)]
set_option maxHeartbeats 4000000 in
set_option maxRecDepth 100000 in
theorem refDrop_any (h : RefIs D w v cap (refM M)) (hG : TG M cap) {p i : Nat} {s : ByteArray} (hs : entN M p s = some i) (hno : ∀ t, entN M i t = none) :
    Calls Tryz.prog 57 #[treeV v, .int .i64 p, .string s] w fun e w' => ∃ v', e = .returned (treeV v') ∧ RefIs (fun b => D b ∨ w.heap.size ≤ b) w' v' cap (refM (dropT M p s i)) ∧ Below w.heap.size w w' := by
  have hcap := h.1
  obtain ⟨g, c, hvv, hD, hg, hn⟩ := h.at_
  subst hvv
  obtain ⟨nd, hm⟩ := Option.isSome_iff_exists.1 (hG.ok.ent p s i hs)
  obtain ⟨ndp, fp, hmp, -⟩ := isDir_there (ent_dir hs)
  have hpc := (hG.ok.low p ndp hmp).2
  have hic := (hG.ok.low i nd hm).2
  have H : Hid (RefIs (fun b => D b ∧ b < w.heap.size) w (.slice (some ⟨g, 0, none⟩) cap c) cap (refM M)) := Lib.hid (h.mono fun b hb hd => ⟨hd, hb⟩)
  have HF := Lib.hid (two_new w (.cells #[.slice (some ⟨g, 0, none⟩) cap c] 30 (0, 0)) (.cells #[.slice none 0 0] 30 (0, 0)))
  have HE : Hid (entI (refM M p).en s = i) := Lib.hid (by unfold entI; rw [refM_en, hs]; rfl)
  have HN : Hid (∀ n : Nat, LinksIs (setK (refM M) p ⟨(refM M p).kd, (refM M p).dt, updE (refM M p).en s none⟩) cap i n → (n : Int) + 1 = nd.links) := Lib.hid fun n hn => by rw [cut_names hG hs hn, lkN_of hm]
  have HC : Hid (nd.links ≠ 1 → setK (refM M) p ⟨(refM M p).kd, (refM M p).dt, updE (refM M p).en s none⟩ = refM (dropT M p s i)) := Lib.hid (refM_cut hm hs hno)
  have HK : Hid (nd.links = 1 → setK (setK (refM M) p ⟨(refM M p).kd, (refM M p).dt, updE (refM M p).en s none⟩) i ⟨0, [], fun _ => none⟩ = refM (dropT M p s i)) := Lib.hid (refM_kill hm hs hno)
  have HEN := Lib.hid (entry_any (H.out.below HF.out.1) hpc s)
  rw [HE.out] at HEN
  have HCU : Hid (∀ w1, Below w.heap.size w w1 → Calls Tryz.prog 60 #[treeV (.slice (some ⟨g, 0, none⟩) cap c), .int .i64 p, .string s] w1 fun e w' => ∃ v', e = .returned (treeV v') ∧ RefIs (fun b => (D b ∧ b < w.heap.size) ∨ w1.heap.size ≤ b) w' v' cap (setK (refM M) p ⟨(refM M p).kd, (refM M p).dt, updE (refM M p).en s none⟩) ∧ Below w1.heap.size w1 w') := Lib.hid fun w1 hb => cut_any (H.out.below hb) hpc s
  have HPC := Lib.hid hpc; have HIC := Lib.hid hic
  clear h hn hs hno hm hmp hpc hic hG
  unfold treeV at HEN HCU ⊢
  go_enter Tryz.func57, Tryz.ntmps57
  generalize setK (refM M) p ⟨(refM M p).kd, (refM M p).dt, updE (refM M p).en s none⟩ = K1 at *
  go_wp2_with fail
  refine HEN.out.mono ?_
  rintro e w1 ⟨rfl, hb1⟩
  have hB1 := below_call HF.out.1 hb1 (Nat.le_refl _)
  have hT1 := (hb1.block _ (blk_lt HF.out.2.1)).trans HF.out.2.1
  have hU1 := (hb1.block _ (blk_lt HF.out.2.2.1)).trans HF.out.2.2.1
  have hs1 : w.heap.size + 2 ≤ w1.heap.size := by have := hb1.size; rw [HF.out.2.2.2] at this; exact this
  have HB1 := Lib.hid hB1; have HT1 := Lib.hid hT1; have HU1 := Lib.hid hU1; have HS1 := Lib.hid hs1
  have c0 := cell_blk_some hT1 (i := 0) rfl
  clear hB1 hT1 hU1 hs1 hb1 HEN HF
  go_wp2_with fail
  refine (HCU.out w1 HB1.out).mono ?_
  rintro e w2 ⟨v2, rfl, hr2, hb2⟩
  obtain ⟨-, g2, c2, rfl, -⟩ := id hr2
  have hB2 := below_call HB1.out hb2 (Nat.le_refl _)
  have hT2 := (hb2.block _ (blk_lt HT1.out)).trans HT1.out
  have hU2 := (hb2.block _ (blk_lt HU1.out)).trans HU1.out
  have hr3 : RefIs (fun b => (D b ∧ b < w.heap.size) ∨ w.heap.size + 2 ≤ b) (w2.setCell ⟨w.heap.size, 0, none⟩ (.slice (some ⟨g2, 0, none⟩) cap c2)) (.slice (some ⟨g2, 0, none⟩) cap c2) cap K1 :=
    (hr2.mono fun b _ hb => hb.imp id fun h => by have := HS1.out; omega).store (by have := HS1.out; omega) _
  have hfs : Fr (fun b => b = w.heap.size) w2 (w2.setCell ⟨w.heap.size, 0, none⟩ (.slice (some ⟨g2, 0, none⟩) cap c2)) := (Fr.refl (fun b => b = w.heap.size) w2).setCell ⟨w.heap.size, 0, none⟩ rfl _
  have HB3 : Hid (Below w.heap.size w (w2.setCell ⟨w.heap.size, 0, none⟩ (.slice (some ⟨g2, 0, none⟩) cap c2))) := Lib.hid (hB2.trans (hfs.toBelow hB2.size fun x hx => by omega))
  have HT3 : Hid ((w2.setCell ⟨w.heap.size, 0, none⟩ (.slice (some ⟨g2, 0, none⟩) cap c2)).heap[w.heap.size]? = some (.cells #[.slice (some ⟨g2, 0, none⟩) cap c2] 30 (0, 0))) := Lib.hid (blk_set hT2 _)
  have HU3 := Lib.hid ((hfs.block _ (blk_lt hU2) (by omega)).trans hU2)
  have d0 := cell_blk_some hT2 (i := 0) rfl
  have d1 := free_blk (i := 0) hT2
  have HR3 := Lib.hid hr3
  have HLI := Lib.hid (links_any hr3 i)
  unfold treeV at HLI
  clear hr2 hb2 hB2 hT2 hU2 hfs hr3 HB1 HT1 HU1 c0 HCU
  go_wp2_with fail
  generalize w2.setCell ⟨w.heap.size, 0, none⟩ (.slice (some ⟨g2, 0, none⟩) cap c2) = w3 at *
  refine HLI.out.mono ?_
  rintro e w4 ⟨n, rfl, hli, hb4⟩
  have hn := HN.out n hli
  have hB4 := below_call HB3.out hb4 (Nat.le_refl _)
  have hT4 := (hb4.block _ (blk_lt HT3.out)).trans HT3.out
  have hU4 := (hb4.block _ (blk_lt HU3.out)).trans HU3.out
  have HR4 := Lib.hid (HR3.out.below hb4)
  have HB4 := Lib.hid hB4; have HT4 := Lib.hid hT4; have HU4 := Lib.hid hU4
  have e0 := cell_blk_some hT4 (i := 0) rfl
  have e1 := cell_blk_some hU4 (i := 0) rfl
  have e2 := free_blk (i := 0) hU4
  have e3 := free_blk (i := 0) hT4
  have HSZ : Hid (w.heap.size + 2 ≤ w4.heap.size) := Lib.hid (by have := blk_lt hU4; omega)
  clear hli hb4 hB4 hT4 hU4 HLI HN d0 d1 HR3 HB3 HT3 HU3
  by_cases hz : n = 0
  · have HKK := Lib.hid (HK.out (by omega))
    have hq : ((n : Int) == 0) = true := by simp [hz]
    have HW := Lib.hid (with_any HR4.out HIC.out (n := ⟨0, [], fun _ => none⟩) (ev := .slice none 0 0) EntRow.nil)
    unfold treeV nodeV at HW
    have he : strOfNums [] = ⟨#[]⟩ := rfl
    rw [he] at HW
    clear hz hn HC HK he
    go_wp2_with fail
    refine HW.out.mono ?_
    rintro e w5 ⟨v5, rfl, hr5, hb5⟩
    obtain ⟨-, g5, c5, rfl, -⟩ := id hr5
    rw [HKK.out] at hr5
    have hB5 := below_call HB4.out hb5 (Nat.le_refl _)
    have hT5 := (hb5.block _ (blk_lt HT4.out)).trans HT4.out
    have hU5 := (hb5.block _ (blk_lt HU4.out)).trans HU4.out
    have hr6 : RefIs (fun b => (D b ∧ b < w.heap.size) ∨ w.heap.size + 2 ≤ b) (w5.setCell ⟨w.heap.size, 0, none⟩ (.slice (some ⟨g5, 0, none⟩) cap c5)) (.slice (some ⟨g5, 0, none⟩) cap c5) cap (refM (dropT M p s i)) :=
      (hr5.mono fun b _ hb => by have := HSZ.out; rcases hb with hb | hb; exact hb; exact .inr (by omega)).store (by omega) _
    have hfs : Fr (fun b => b = w.heap.size) w5 (w5.setCell ⟨w.heap.size, 0, none⟩ (.slice (some ⟨g5, 0, none⟩) cap c5)) := (Fr.refl (fun b => b = w.heap.size) w5).setCell ⟨w.heap.size, 0, none⟩ rfl _
    have HB6 : Hid (Below w.heap.size w (w5.setCell ⟨w.heap.size, 0, none⟩ (.slice (some ⟨g5, 0, none⟩) cap c5))) := Lib.hid (hB5.trans (hfs.toBelow hB5.size fun x hx => by omega))
    have HU6 := Lib.hid ((hfs.block _ (blk_lt hU5) (by omega)).trans hU5)
    have p0 := cell_blk_some hT5 (i := 0) rfl
    have p1 := free_blk (i := 0) hT5
    have p2 := cell_blk_some hU5 (i := 0) rfl
    have p3 := free_blk (i := 0) hU5
    have HR6 := Lib.hid hr6
    have n1 : ¬ w.heap.size = w.heap.size + 1 := by omega
    have n2 : ¬ w.heap.size + 1 = w.heap.size := by omega
    clear hr5 hb5 hB5 hT5 hU5 hfs hr6 e0 e1 e2 e3 HW
    go_wp2_with fail
    generalize w5.setCell ⟨w.heap.size, 0, none⟩ (.slice (some ⟨g5, 0, none⟩) cap c5) = w6 at *
    have hU7 := blk_set HU6.out (i := 0) (.slice (some ⟨g5, 0, none⟩) cap c5)
    refine bodyPost_ret (results_cell_row rfl _ _ (w.heap.size + 1) _ _ _ _ rfl hU7 Tryz.underlying30 rfl (by kernel_rfl)) rfl ?_
    exact ⟨_, rfl, (HR6.out.store (by omega) _).mono fun b _ hb => hb.elim (fun h => .inl h.1) fun h => .inr (by omega), HB6.out.trans (((Fr.refl (fun b => b = w.heap.size + 1) w6).setCell ⟨w.heap.size + 1, 0, none⟩ rfl _).toBelow HB6.out.size fun x hx => by omega)⟩
  · have HKK := Lib.hid (HC.out (by omega))
    have hq : ((n : Int) == 0) = false := by simp [hz]
    clear hz hn HC HK
    go_wp2_with fail
    have hU7 := blk_set HU4.out (i := 0) (.slice (some ⟨g2, 0, none⟩) cap c2)
    refine bodyPost_ret (results_cell_row rfl _ _ (w.heap.size + 1) _ _ _ _ rfl hU7 Tryz.underlying30 rfl (by kernel_rfl)) rfl ?_
    have hr := HR4.out
    rw [HKK.out] at hr
    exact ⟨_, rfl, (hr.store (by omega) _).mono fun b _ hb => hb.elim (fun h => .inl h.1) fun h => .inr (by omega), HB4.out.trans (((Fr.refl (fun b => b = w.heap.size + 1) w4).setCell ⟨w.heap.size + 1, 0, none⟩ rfl _).toBelow HB4.out.size fun x hx => by omega)⟩
end
end Go.Proofs.YtoofcnehoffllaaGreat
