/- Walks of the reference's List, Read. -/
import Derived.Test.YtoofcnehoffllaaGreatR18
import Derived.Test.YtoofcnehoffllaaGreatR15
namespace Go.Proofs.YtoofcnehoffllaaGreat
open Go.RowKit

theorem file_nz {M : TM} {s : ByteArray} {q : Int} (h : fileN M s = .inr q) : q ≠ 0 := by
  unfold fileN at h
  split at h
  · rename_i e he
    injection h with h
    rw [← h]; exact look_nz he
  · split at h
    · injection h with h; omega
    · cases h
theorem file_is {M : TM} {cap : Nat} (hk : TOk M cap) {s : ByteArray} {i : Nat} (h : fileN M s = .inl i) : (M i).isSome = true := by
  unfold fileN at h
  split at h
  · cases h
  · rename_i j hj
    split at h
    · cases h
    · injection h with h
      rw [← h]; exact look_is hk hj
theorem elStrR : ElT Tryz.prog 54 9 1 16 (.string ⟨#[]⟩) := ⟨Tryz.underlying54, by kernel_rfl, by kernel_rfl, by decide⟩
theorem srcSt (wy : World) (s : ByteArray) : SrcG 1 (wy.alloc (.cells #[.string s] 9 (0, 0))) (.slice (some ⟨wy.heap.size, 0, none⟩) 1 1) 1 [Value.string s] := SrcG.block (xs := [Value.string s]) (blk_new rfl) rfl fun u hu => by
  rw [List.mem_singleton.1 hu]; rfl
section
variable {D : Nat → Prop} {w : World} {v : Value} {cap : Nat} {M : TM}
theorem ent_list {i : Nat} {L : List (ByteArray × Nat)} (h : EntL (refM M i).en L) : ListIs M i (L.map fun x => x.1) := by
  refine ⟨?_, entL_nodup h, fun s => ?_⟩
  · rw [List.map_map]
    exact h.1.imp fun {a b} hab => List.le_of_lt hab
  · rw [List.mem_map]
    constructor
    · rintro ⟨x, hx, rfl⟩
      have := (h.2 x.1 x.2).1 hx
      rw [refM_en] at this
      rw [this]; rfl
    · intro hs
      obtain ⟨j, hj⟩ := Option.isSome_iff_exists.1 hs
      rw [← refM_en] at hj
      exact ⟨(s, j), (h.2 s j).2 hj, rfl⟩
set_option maxHeartbeats 4000000 in
set_option maxRecDepth 100000 in
theorem refList_any (h : RefIs D w v cap (refM M)) (hk : TOk M cap) (s : ByteArray) (hs : s.size ≤ 1000000) :
    Calls Tryz.prog 17 #[treeV v, .string s] w fun e w' => ∃ u l, e = .returned (.tuple #[u, .int .i64 (listC M s)]) ∧ ListOf M s l ∧ l.length ≤ 1000000 ∧ StrsAt w'.heap.size w' u l ∧ Below w.heap.size w w' := by
  have hcap := h.1
  obtain ⟨g, c, hvv, hD, hg, hn⟩ := h.at_
  subst hvv
  obtain ⟨ht1, ht2⟩ := top_new w (.slice (some ⟨g, 0, none⟩) cap c)
  have HB0 := Lib.hid ht1; have HT0 := Lib.hid ht2
  have HL := Lib.hid (refLook_any (h.below ht1) hk s hs)
  have HK := Lib.hid hk; have HN := Lib.hid hn
  clear h hk hn ht1 ht2
  unfold treeV at HL ⊢
  go_enter Tryz.func17, Tryz.ntmps17
  cases hl : lookN M s with
  | inr q =>
    have HR : Hid (listC M s = q) := Lib.hid (by unfold listC; rw [hl])
    have HO : Hid (ListOf M s []) := Lib.hid (by unfold ListOf; rw [hl])
    have hq : (q != 0) = true := by simp [look_nz hl]
    rw [hl] at HL
    unfold ledV at HL
    dsimp only at HL
    clear hl
    go_wp2_with fail
    refine HL.out.mono ?_
    rintro e w1 ⟨rfl, hb1⟩
    have HB1 := Lib.hid (below_call HB0.out hb1 (Nat.le_refl _))
    clear hb1
    go_wp2_with fail
    go_ret2
    exact ⟨_, [], by rw [HR.out]; rfl, HO.out, by simp, .nil, HB1.out⟩
  | inl i =>
    obtain ⟨nd, hm⟩ := Option.isSome_iff_exists.1 (look_is HK.out hl)
    have hic := (HK.out.low i nd hm).2
    have i0 : (0 : Int) ≤ (i : Int) := by omega
    have i1 : (i : Int) < (cap : Int) := by omega
    have HLO := Lib.hid hl
    rw [hl] at HL
    unfold ledV at HL
    dsimp only at HL
    clear hl hm
    go_wp2_with fail
    refine HL.out.mono ?_
    rintro e w1 ⟨rfl, hb1⟩
    have HB1 := Lib.hid (below_call HB0.out hb1 (Nat.le_refl _))
    have HT1 := Lib.hid ((hb1.block _ (blk_lt HT0.out)).trans HT0.out)
    have c0 := cell_blk_some HT1.out (i := 0) rfl
    obtain ⟨ev, x0, -, x2, L, hL, hLl, ea, ec, rfl, hrow⟩ := HN.out i hic
    have k0 := (World.cell?_of_block (w := w) (a := ⟨g, i * 3, none⟩) (HB1.out.block g hg)).trans x0
    have k2 := (World.cell?_of_block (w := w) (a := ⟨g, i * 3 + 2, none⟩) (HB1.out.block g hg)).trans x2
    have HX2 := Lib.hid x2; have HROW := Lib.hid hrow; have HEL := Lib.hid hL
    clear hb1 HL x0 x2 hrow hL
    cases hd : isDir M i with
    | false =>
      have HR : Hid (listC M s = 20) := Lib.hid (by unfold listC; rw [HLO.out]; dsimp only; rw [hd]; rfl)
      have HO : Hid (ListOf M s []) := Lib.hid (by unfold ListOf; rw [HLO.out]; dsimp only; rw [hd]; rfl)
      have hq := (refM_file hd).1
      clear hd k2
      generalize (refM M i).kd = kd at *
      go_wp2_with fail
      go_ret2
      exact ⟨_, [], by rw [HR.out]; rfl, HO.out, by simp, .nil, HB1.out⟩
    | true =>
      have HR : Hid (listC M s = 0) := Lib.hid (by unfold listC; rw [HLO.out]; dsimp only; rw [hd]; rfl)
      have HO : Hid (ListOf M s (L.map fun x => x.1)) := Lib.hid (by unfold ListOf; rw [HLO.out]; dsimp only; rw [if_pos hd]; exact ent_list HEL.out)
      rw [refM_dir hd] at k0
      clear hd
      go_wp2_with fail
      clear k0 k2 c0
      go_loopw [8, 33] (fun uv idx wy => ∃ (k : Nat), k ≤ L.length ∧ idx = .int .i64 k ∧ wy.ownsRow w1.heap.size 9 1 uv k ((L.take k).map fun x => Value.string x.1) ∧ Below w1.heap.size w1 wy) (fun _ idx _ => L.length - (RowKit.intOf idx).toNat)
      case atStart => exact ⟨0, by omega, rfl, ⟨rfl, .inl ⟨rfl, rfl⟩⟩, Below.refl _ _⟩
      case round =>
        obtain ⟨k, hk, rfl, hown, hby⟩ := hrel
        have HOW := Lib.hid hown; have HBY := Lib.hid hby
        have HBW := Lib.hid (below_call HB1.out hby (Nat.le_refl _))
        have hsz := hby.size
        have k2 := (World.cell?_of_block (w := w) (a := ⟨g, i * 3 + 2, none⟩) (HBW.out.block g hg)).trans HX2.out
        have c0 := cell_blk_some ((hby.block _ (blk_lt HT1.out)).trans HT1.out) (i := 0) rfl
        clear hown hby
        by_cases hkl : k < L.length
        · obtain ⟨x, hx⟩ : ∃ x, L[k]? = some x := ⟨_, List.getElem?_eq_getElem hkl⟩
          obtain ⟨ge, oe, rfl, -, hge, hcell⟩ := HROW.out (by omega)
          have x0 := (World.cell?_of_block (w := w) (a := ⟨ge, oe + k * 2, none⟩) (HBW.out.block ge hge)).trans (hcell k x hx).1
          have kk0 : (0 : Int) ≤ (k : Int) := by omega
          have kk1 : (k : Int) < (L.length : Int) := by omega
          have HX := Lib.hid hx
          have HOA := Lib.hid (own_frame HOW.out (S := fun _ => False) ((Fr.refl _ wr).alloc (.cells #[.string x.1] 9 (0, 0))) fun _ _ => id)
          clear hx hcell
          go_wp2_with (refine wpList_append_g (by rfl) (.tmp 36) (.tmp 47) (by rfl) elStrR (by rfl) HOA.out (by rfl) (srcSt wr x.1) (by unfold maxLen; omega) (by omega) (Nat.le_trans hsz ((Fr.refl (fun _ => False) wr).alloc (.cells #[.string x.1] 9 (0, 0))).size) ?_)
          rintro v' w' h2 h3 -
          have h4 : Fr (fun y => u8.ownBlock = some y) wr w' := ((Fr.refl _ wr).alloc _).trans h3
          have HB2 := Lib.hid (HBY.out.trans (h4.toBelow hsz fun y hy => (World.ownsRow.lt HOW.out y hy).1))
          have HO2 : Hid (w'.ownsRow w1.heap.size 9 1 v' (k + 1) ((L.take (k + 1)).map fun x => Value.string x.1)) := Lib.hid (by rw [take_succ' HX.out, List.map_append, List.map_take]; exact h2)
          clear h2 h3 h4 HOA k2 c0 x0
          go_wp2_with fail
          go_roundw
          case rel => exact ⟨k + 1, by omega, by go_num, HO2.out, HB2.out⟩
          case measure => simp only [RowKit.intOf]; omega
        · obtain rfl : k = L.length := by omega
          rw [List.take_length] at HOW
          go_wp2_with fail
          go_ret2
          refine ⟨_, L.map fun x => x.1, by rw [HR.out]; rfl, HO.out, by rw [List.length_map]; exact hLl, ?_, HBW.out⟩
          refine StrsAt.own (B := w1.heap.size) ?_
          rw [List.length_map, List.map_map]
          exact HOW.out
set_option maxHeartbeats 4000000 in
set_option maxRecDepth 100000 in
theorem refRead_any (h : RefIs D w v cap (refM M)) (hG : TG M cap) (s : ByteArray) (hs : s.size ≤ 1000000) (at_ n : Int) :
    Calls Tryz.prog 13 #[treeV v, .string s, .int .i64 at_, .int .i64 n] w fun e w' => e = .returned (.tuple #[.string (strOfNums (readN M s at_ n).1), .int .i64 (readN M s at_ n).2]) ∧ Below w.heap.size w w' := by
  have hcap := h.1
  obtain ⟨g, c, hvv, hD, hg, hn⟩ := h.at_
  subst hvv
  obtain ⟨ht1, ht2⟩ := top_new w (.slice (some ⟨g, 0, none⟩) cap c)
  have HB0 := Lib.hid ht1; have HT0 := Lib.hid ht2
  have HL := Lib.hid (refFile_any (h.below ht1) hG.ok s hs)
  have HG := Lib.hid hG; have HN := Lib.hid hn
  have hnil : strOfNums [] = ⟨#[]⟩ := rfl
  clear h hG hn ht1 ht2
  unfold treeV at HL ⊢
  go_enter Tryz.func13, Tryz.ntmps13
  cases hl : fileN M s with
  | inr q =>
    have HR : Hid (readN M s at_ n = ([], q)) := Lib.hid (by unfold readN; rw [hl])
    have hq : (q != 0) = true := by simp [file_nz hl]
    rw [hl] at HL
    unfold ledV at HL
    dsimp only at HL
    clear hl
    go_wp2_with fail
    refine HL.out.mono ?_
    rintro e w1 ⟨rfl, hb1⟩
    have HB1 := Lib.hid (below_call HB0.out hb1 (Nat.le_refl _))
    clear hb1
    go_wp2_with fail
    go_ret2
    exact ⟨by rw [HR.out]; rfl, HB1.out⟩
  | inl i =>
    obtain ⟨nd, hm⟩ := Option.isSome_iff_exists.1 (file_is HG.out.ok hl)
    have hic := (HG.out.ok.low i nd hm).2
    have i0 : (0 : Int) ≤ (i : Int) := by omega
    have i1 : (i : Int) < (cap : Int) := by omega
    have HR : Hid (readN M s at_ n = if at_ < 0 ∨ n < 0 ∨ 4096 < n then ([], 22) else (((datN M i).drop at_.toNat).take n.toNat, 0)) := Lib.hid (by unfold readN; rw [hl])
    rw [hl] at HL
    unfold ledV at HL
    dsimp only at HL
    clear hl hm
    go_wp2_with fail
    refine HL.out.mono ?_
    rintro e w1 ⟨rfl, hb1⟩
    have HB1 := Lib.hid (below_call HB0.out hb1 (Nat.le_refl _))
    have HT1 := Lib.hid ((hb1.block _ (blk_lt HT0.out)).trans HT0.out)
    clear hb1 HL
    by_cases h1 : at_ < 0
    · have q1 : decide (at_ < 0) = true := dec_true h1
      have HR2 : Hid (readN M s at_ n = ([], 22)) := Lib.hid (by rw [HR.out, if_pos (.inl h1)])
      go_wp2_with fail
      go_ret2
      exact ⟨by rw [HR2.out]; rfl, HB1.out⟩
    have q1 : decide (at_ < 0) = false := dec_false h1
    by_cases h2 : n < 0
    · have q2 : decide (n < 0) = true := dec_true h2
      have HR2 : Hid (readN M s at_ n = ([], 22)) := Lib.hid (by rw [HR.out, if_pos (.inr (.inl h2))])
      go_wp2_with fail
      go_ret2
      exact ⟨by rw [HR2.out]; rfl, HB1.out⟩
    have q2 : decide (n < 0) = false := dec_false h2
    by_cases h3 : 4096 < n
    · have q3 : decide (4096 < n) = true := dec_true h3
      have HR2 : Hid (readN M s at_ n = ([], 22)) := Lib.hid (by rw [HR.out, if_pos (.inr (.inr h3))])
      go_wp2_with fail
      go_ret2
      exact ⟨by rw [HR2.out]; rfl, HB1.out⟩
    have q3 : decide (4096 < n) = false := dec_false h3
    have HR2 : Hid (readN M s at_ n = (((datN M i).drop at_.toNat).take n.toNat, 0)) := Lib.hid (by rw [HR.out, if_neg (by omega)])
    obtain ⟨a, rfl⟩ : ∃ a : Nat, at_ = (a : Int) := ⟨at_.toNat, by omega⟩
    obtain ⟨b, rfl⟩ : ∃ b : Nat, n = (b : Int) := ⟨n.toNat, by omega⟩
    rw [Int.toNat_natCast, Int.toNat_natCast] at HR2
    clear HR
    have c0 := cell_blk_some HT1.out (i := 0) rfl
    obtain ⟨ev, -, x1, -, -⟩ := HN.out i hic
    rw [show (refM M i).dt = datN M i by rw [refM_eq]] at x1
    have k1 := (World.cell?_of_block (w := w) (a := ⟨g, i * 3 + 1, none⟩) (HB1.out.block g hg)).trans x1
    have hbyt := (HG.out.byt i).1
    generalize datN M i = dt at *
    have hsz := str_size dt
    by_cases h4 : dt.length ≤ a
    · have q4 : decide ((dt.length : Int) ≤ (a : Int)) = true := dec_true (by omega)
      have q5 : (dt.length : Int) ≤ (a : Int) := by omega
      have HR3 : Hid ((dt.drop a).take b = []) := Lib.hid (by rw [List.drop_eq_nil_of_le h4]; simp)
      generalize strOfNums dt = st at *
      go_wp2_with fail
      go_ret2
      exact ⟨by rw [HR2.out, HR3.out]; rfl, HB1.out⟩
    have q4 : decide ((dt.length : Int) ≤ (a : Int)) = false := dec_false (by omega)
    have q5 : (a : Int) < (dt.length : Int) := by omega
    have hex := str_cut dt a dt.length
    have hsz2 := str_size ((dt.drop a).take (dt.length - a))
    rw [List.length_take, List.length_drop, Nat.min_self] at hsz2
    have hex2 := str_cut ((dt.drop a).take (dt.length - a)) 0 b
    have hfull : (dt.drop a).take (dt.length - a) = dt.drop a := List.take_of_length_le (by rw [List.length_drop]; exact Nat.le_refl _)
    have HEX := Lib.hid hex; have HEX2 := Lib.hid hex2; have HFU := Lib.hid hfull
    clear hfull x1
    generalize hs1 : strOfNums ((dt.drop a).take (dt.length - a)) = st2 at *
    generalize strOfNums dt = st at *
    have HS1 := Lib.hid hs1
    clear hs1 hex2
    have HSZ := Lib.hid hsz
    obtain ⟨r, hr⟩ : ∃ r, r = dt.length - a := ⟨_, rfl⟩
    rw [← hr] at hsz2
    have hr1 : a + r = dt.length := by omega
    have HR1 := Lib.hid hr
    clear hr
    by_cases hb : b < r
    · have q6 : decide ((b : Int) < (r : Int)) = true := dec_true (by omega)
      have q7 : (b : Int) < (r : Int) := by omega
      have HFIN : Hid (st2.extract 0 b = strOfNums ((dt.drop a).take b)) := Lib.hid (by
        rw [HEX2.out, HFU.out]; rfl)
      clear hr1
      go_wp2_with fail
      go_ret2
      exact ⟨by rw [HR2.out, ← HFIN.out]; rfl, HB1.out⟩
    · have q6 : decide ((b : Int) < (r : Int)) = false := dec_false (by omega)
      have q7 : (r : Int) ≤ (b : Int) := by omega
      have HFIN : Hid (st2 = strOfNums ((dt.drop a).take b)) := Lib.hid (by
        rw [← HS1.out, HFU.out, List.take_of_length_le (by rw [List.length_drop]; omega)])
      clear hr1
      go_wp2_with fail
      go_ret2
      exact ⟨by rw [HR2.out, ← HFIN.out]; rfl, HB1.out⟩
end
end Go.Proofs.YtoofcnehoffllaaGreat
