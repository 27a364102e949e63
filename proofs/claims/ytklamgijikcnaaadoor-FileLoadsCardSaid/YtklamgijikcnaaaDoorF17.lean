/- Walk of file's Cut. -/
import Derived.Test.YtklamgijikcnaaaDoorF16
namespace Go.Proofs.YtklamgijikcnaaaDoor
open Go.RowKit

/-- No block of pointers comes, none's address turns. -/
def Sub (m m' : MM) : Prop := ∀ k a u, m' k = some (a, u) → ∃ u', m k = some (a, u')
theorem Sub.refl (m : MM) : Sub m m := fun _ _ u h => ⟨u, h⟩
theorem Sub.trans {a b c : MM} (h : Sub a b) (k : Sub b c) : Sub a c := fun x y u hx => by
  obtain ⟨u', hu⟩ := k x y u hx
  exact h x y u' hu
section
variable {d d' : Int → Int} {m m' : MM}
theorem setS_sub (h : Inv d m) {n : Int} (hn : 0 ≤ n ∧ n < 600) : Sub m (setS d m n 0).2.1 := by
  unfold setS
  by_cases h1 : d n = 0
  · rw [if_pos h1]; exact Sub.refl m
  · rw [if_neg h1, if_pos rfl]
    obtain ⟨_, _, _, i3, _⟩ := leave_inv 4 _ m n (mem_nodes.2 (.inl hn)) (by omega) (leave_pre h hn h1)
    exact i3
theorem goneL_length (a b : Int → Int) : (goneL a b).length ≤ 642 := by
  unfold goneL
  rw [List.length_map]
  have h1 := List.length_filter_le (fun c => decide (a c ≠ 0) && decide (b c ≠ a c)) nodesN
  have h2 : nodesN.length = 642 := by unfold nodesN; rw [List.length_append, List.length_map, List.length_range]; decide +kernel
  omega
theorem dataF_some (h : Inv d m) (k : Int) : (dataF d k).isSome = true ↔ k ∈ keysD d := by
  rw [mem_keysD h]
  unfold dataF
  by_cases e : d k = 0
  · rw [if_pos e]; simp [e]
  · rw [if_neg e]; simp [e]
end
/-- What Cut answers, and leaves. -/
def CutRes (w : World) (fb : Nat) (F : Nat → Prop) (d : Int → Int) (m : MM) (from_ : Int) (e : Ending) (w' : World) : Prop :=
  ∃ v F' d' m', e = .returned (.tuple #[v, .int .i64 0]) ∧ Inv d' m' ∧ (∀ x, d' x = if from_ ≤ x then 0 else d x) ∧ Sub m m' ∧ Less (adr d m) (adr d' m') ∧ OwnI w' w.heap.size v (sortI (goneL (adr d m) (adr d' m'))) ∧ FAt w' fb d' m' F' ∧ Aft w w' F F'
structure CutSt (w : World) (fb : Nat) (F : Nat → Prop) (d : Int → Int) (m : MM) (from_ : Int) (kv out : Value) (i : Nat) (wr : World) (di : Int → Int) (mi : MM) (Fi : Nat → Prop) (L : List Int) : Prop where
  inv : Inv di mi
  f : FAt wr fb di mi Fi
  aft : Aft w wr F Fi
  tag : ∀ x, Fi x → Tag wr x
  dd : ∀ x, di x = if x ∈ (keysD d).take i ∧ from_ ≤ x then 0 else d x
  sub : Sub m mi
  less : Less (adr d m) (adr di mi)
  row : OwnI wr w.heap.size out L
  perm : L.Perm (goneL (adr d m) (adr di mi))
  keys : OwnI wr w.heap.size kv (keysD d)
  apart : ∀ g, out.ownBlock = some g → kv.ownBlock ≠ some g
theorem Aft.tight {w w' : World} {F F' : Nat → Prop} (h : Aft w w' F F') {T : Nat → Prop} : Aft w w' F fun x => F' x ∧ T x := ⟨h.fr, fun x hx => h.new x hx.1⟩
set_option maxHeartbeats 4000000 in
set_option maxRecDepth 100000 in
theorem cut_any {w : World} {fb : Nat} {d : Int → Int} {m : MM} {F : Nat → Prop} {from_ : Int} (hF : FAt w fb d m F) (hI : Inv d m) (hfr : 0 ≤ from_ ∧ from_ ≤ 600) :
    Calls Tryd.prog 13 #[.pointer (some ⟨fb, 0, none⟩), .int .i64 from_] w (CutRes w fb F d m from_) := by
  obtain ⟨r0, r1⟩ := hfr
  obtain ⟨db, mb, P, hin, hft⟩ := hF.ex
  have c0 := cell_blk_some hin.top (i := 0) rfl
  have hkl := keysD_length (d := d)
  have hw0 := hF.span.lt
  have hsr := sorted_any hin.md zero_int (fun k hk => by have := keysD_range ((dataF_some hI k).1 hk); omega) (keysD_nodup d) (fun k => (dataF_some hI k).symm) (by omega)
  rw [sortI_keysD] at hsr
  have HS := Lib.hid hsr
  have HF := Lib.hid hF; have HI := Lib.hid hI
  clear hF hI hin hft hsr
  go_enter Tryd.func13, Tryd.ntmps13
  go_wp2_with fail
  refine (keys_any _ _).mono ?_
  rintro e w1 ⟨rfl, rfl⟩
  go_wp2_with fail
  refine HS.out.mono ?_
  rintro e w2 ⟨kv, rfl, hk2, hb2⟩
  have hb : Below w.heap.size w w2 := ((Below.refl _ w).alloc (Nat.le_refl _) _).trans (hb2.mono (Nat.le_succ _))
  have hF2 := HF.out.below hb
  obtain ⟨xk, yk, rfl⟩ := hk2.shape
  have ST : Hid (∃ di mi Fi L, CutSt w fb F d m from_ (.slice xk (keysD d).length yk) (.slice none 0 0) 0 w2 di mi Fi L) := Lib.hid
    ⟨d, m, _, [], HI.out, hF2.tight, (Aft.below (F := F) hb).tight, fun x hx => hx.2, fun x => by rw [List.take_zero, if_neg (by simp)], Sub.refl _, Less.refl _, IntsAt.nil _ _ _, by rw [goneL_same], hk2.mono (by omega), fun g hg => by cases hg⟩
  clear hk2 hb2 hb hF2 c0 HS HF
  go_wp2_with fail
  go_loopw [6, 24] (fun out idx wr => ∃ i : Nat, i ≤ (keysD d).length ∧ idx = .int .i64 i ∧ ∃ di mi Fi L, CutSt w fb F d m from_ (.slice xk (keysD d).length yk) out i wr di mi Fi L) (fun _ idx _ => (keysD d).length - (RowKit.intOf idx).toNat)
  case atStart => exact ⟨0, by omega, rfl, ST.out⟩
  case round =>
    obtain ⟨i, hi, rfl, di, mi, Fi, L, hC⟩ := hrel
    clear ST
    have HC := Lib.hid hC
    clear hC
    by_cases hil : i < (keysD d).length
    · obtain ⟨x, hx⟩ : ∃ x, (keysD d)[i]? = some x := ⟨_, List.getElem?_eq_getElem hil⟩
      obtain ⟨x0, x1⟩ := keysD_range (List.mem_of_getElem? hx)
      obtain ⟨g, c, he, _, _, _, hcell, _⟩ := HC.out.keys.cells (by omega)
      injection he with h1 _ h2
      subst h1 h2
      have hcx := hcell i x hx
      have hii : (i : Int) < ((keysD d).length : Int) := by omega
      have hi0 : (0 : Int) ≤ (i : Int) := by omega
      have htk := take_at hx
      have HTK := Lib.hid htk; have HX := Lib.hid hx
      clear hcell htk hx
      by_cases hfx : from_ ≤ x
      · have HSET := Lib.hid (set_data HC.out.f HC.out.inv ⟨x0, x1⟩ (show (0 : Int) ≤ 0 ∧ (0 : Int) < 4096 by omega))
        have hFX := Lib.hid hfx
        go_wp2_with fail
        refine HSET.out.mono ?_
        rintro e w3 ⟨v3, F3, rfl, ho3, hF3, hA3⟩
        have hrow3 := HC.out.row.fr hA3.fr (fun q hq hx => HC.out.row.off_tag (HC.out.tag q hx) hq)
        have hkey3 := HC.out.keys.fr hA3.fr (fun q hq hx => HC.out.keys.off_tag (HC.out.tag q hx) hq)
        have hT3 := hF3.tight
        have hL : L.length ≤ 642 := by rw [HC.out.perm.length_eq]; exact goneL_length _ _
        have hok := setS_ok HC.out.inv (a := 0) ⟨x0, x1⟩
        have hl3 : (setS di mi x 0).2.2.length ≤ 642 := by rw [hok.2.2, sortI_length]; exact goneL_length _ _
        have hs3 := hA3.fr.size
        have hs0 := HC.out.aft.fr.size
        have OK := Lib.hid hok; have R3 := Lib.hid hrow3; have K3 := Lib.hid hkey3; have T3 := Lib.hid hT3; have A3 := Lib.hid hA3; have O3 := Lib.hid ho3
        clear hok hrow3 hkey3 hT3 hF3 hA3 ho3 HSET hfx hcx
        go_wp2_with (refine wpList_append_rows (m := (setS di mi x 0).2.2) rfl (.tmp 37) (.tmp 38) rfl (by rfl) R3.out (by rfl) O3.out.row (by omega) (by omega) ?_)
        intro v4 w4 ho4 hf4 hv4
        have hoff : ∀ q, F3 q ∧ Tag w3 q → ¬ u6.ownBlock = some q := fun q hq e => OwnI.off_tag R3.out hq.2 e
        have hF4 := T3.out.fr hf4 hoff (fun e => by have := (R3.out.lt _ e).1; omega)
        have hk4 := K3.out.fr hf4 (fun q hq e => HC.out.apart q e hq)
        have O4 := Lib.hid ho4; have F4 := Lib.hid hF4; have K4 := Lib.hid hk4; have FR4 := Lib.hid hf4; have V4 := Lib.hid hv4; have OF := Lib.hid hoff
        clear ho4 hF4 hk4 hf4 hv4 hoff
        go_wp2_with fail
        go_roundw
        case rel =>
          have hC := HC.out
          obtain ⟨k1, k2, k3⟩ := OK.out
          refine ⟨i + 1, by omega, by go_num, (setS di mi x 0).1, (setS di mi x 0).2.1, _, L ++ (setS di mi x 0).2.2, k2.inv, F4.out, ?_, fun q hq => ?_, fun z => ?_, hC.sub.trans (setS_sub hC.inv ⟨x0, x1⟩), hC.less.trans (setS_less hC.inv ⟨x0, x1⟩), O4.out, ?_, K4.out, fun q hq e => ?_⟩
          · exact ⟨(hC.aft.trans A3.out).fr.trans' FR4.out fun q hq e => by have := (hC.row.lt q e).1; omega, fun q hq => (hC.aft.trans A3.out).new q hq.1⟩
          · have hq2 := FR4.out.block q (T3.out.lt q hq) (OF.out q hq)
            unfold Tag
            rw [hq2]; exact hq.2
          · rw [k1, HTK.out]
            by_cases hz : z = x
            · rw [hz, setD_self, if_pos ⟨by simp, hFX.out⟩]
            · have : z ∈ (keysD d).take i ++ [x] ↔ z ∈ (keysD d).take i := by rw [List.mem_append, List.mem_singleton]; exact ⟨fun h => h.resolve_right hz, .inl⟩
              rw [setD_other hz, hC.dd z]
              simp only [this]
          · rw [k3]
            exact (hC.perm.append (sortI_perm _)).trans (goneL_trans hC.less (setS_less hC.inv ⟨x0, x1⟩))
          · rcases V4.out with h | h
            · exact hC.apart q (by rw [← h]; exact hq) e
            · rw [h] at hq
              injection hq with hq
              have := (K3.out.lt q e).2
              omega
        case measure => simp only [RowKit.intOf]; omega
      · go_wp2_with fail
        go_roundw
        case rel =>
          have hC := HC.out
          refine ⟨i + 1, by omega, by go_num, di, mi, Fi, L, hC.inv, hC.f, hC.aft, hC.tag, fun z => ?_, hC.sub, hC.less, hC.row, hC.perm, hC.keys, hC.apart⟩
          rw [hC.dd z, HTK.out]
          by_cases hz : z = x
          · rw [if_neg (by rw [hz]; omega), if_neg (by rw [hz]; omega)]
          · have : z ∈ (keysD d).take i ++ [x] ↔ z ∈ (keysD d).take i := by rw [List.mem_append, List.mem_singleton]; exact ⟨fun h => h.resolve_right hz, .inl⟩
            simp only [this]
        case measure => simp only [RowKit.intOf]; omega
    · obtain rfl : i = (keysD d).length := by omega
      have hL : L.length ≤ 642 := by rw [HC.out.perm.length_eq]; exact goneL_length _ _
      have hso := Lib.hid (sort_own HC.out.row (by omega))
      have hs0 := HC.out.aft.fr.size
      go_wp2_with fail
      refine hso.out.mono ?_
      rintro e w3 ⟨rfl, ho3, hf3⟩
      have hoff : ∀ q, Fi q → ¬ u6.ownBlock = some q := fun q hq e => HC.out.row.off_tag (HC.out.tag q hq) e
      have hF3 := HC.out.f.fr hf3 hoff (fun e => by have := (HC.out.row.lt _ e).1; omega)
      have O3 := Lib.hid ho3; have F3 := Lib.hid hF3; have FR3 := Lib.hid hf3
      clear ho3 hF3 hf3 hso hoff
      go_wp2_with fail
      go_ret2
      have hC := HC.out
      refine ⟨_, Fi, di, mi, rfl, hC.inv, fun z => ?_, hC.sub, hC.less, ?_, F3.out, hC.aft.fr.trans' FR3.out fun q hq e => by have := (hC.row.lt q e).1; omega, hC.aft.new⟩
      · rw [hC.dd z, List.take_length]
        by_cases hz : from_ ≤ z
        · rw [if_pos hz]
          by_cases hm : z ∈ keysD d
          · rw [if_pos ⟨hm, hz⟩]
          · rw [if_neg (fun h => hm h.1)]
            by_cases e : d z = 0
            · exact e
            · exact absurd ((mem_keysD HI.out).2 e) hm
        · rw [if_neg hz, if_neg (fun h => hz h.2)]
      · rw [← sortI_of_perm hC.perm]; exact O3.out
end Go.Proofs.YtklamgijikcnaaaDoor
