/- Walks of Read, Stat. -/
import Derived.Test.YtoofcnehoffllaaT20
namespace Go.Proofs.Ytoofcnehoffllaa
open Go.RowKit

/-- What Read answers. -/
def readN (M : TM) (s : ByteArray) (at_ n : Int) : List Int × Int := match fileN M s with
  | .inr c => ([], c)
  | .inl i => if at_ < 0 ∨ n < 0 ∨ 4096 < n then ([], 22) else (((datN M i).drop at_.toNat).take n.toNat, 0)
/-- What Stat answers. -/
def statA (i k l z : Int) : Value := .agg #[.int .i64 i, .int .i64 k, .int .i64 l, .int .i64 z]
def statN (M : TM) (s : ByteArray) : (Int × Int × Int × Int) × Int := match lookN M s with
  | .inr c => ((0, 0, 0, 0), c)
  | .inl i => (((i : Int), (if isDir M i then 2 else 1), lkN M i, ((datN M i).length : Int)), 0)
def statV (x : Int × Int × Int × Int) : Value := statA x.1 x.2.1 x.2.2.1 x.2.2.2
section
variable {w w' : World} {tb nb cap : Nat} {P E : Nat → Option Nat} {V : Nat → Value} {M : TM}
theorem srcSub {w : World} {B n c C K f g : Nat} {a : Option Addr} {xs : List Value} (h : w.ownsRow B 5 1 (.slice (some ⟨g, 0, none⟩) n c) n xs) (h1 : ∀ u ∈ xs, u.oneCell' = true) (hK : f + K ≤ n) (ha : 0 < K → a = some ⟨g, f, none⟩) : SrcG 1 w (.slice a K C) K ((xs.drop f).take K) := by
  have hl : xs.length = n * 1 := h.1
  refine ⟨a, C, rfl, by rw [List.length_take, List.length_drop]; omega, fun u hu => h1 u (List.mem_of_mem_drop (List.mem_of_mem_take hu)), fun hp => ⟨_, ha hp, fun j u hj => ?_⟩⟩
  rw [List.getElem?_take] at hj
  split at hj
  · rw [List.getElem?_drop] at hj
    have := h.cells (g := g) rfl (f + j) u hj
    rw [Addr.add_lit, Nat.zero_add] at this
    rw [Addr.add_lit]
    exact this
  · cases hj
theorem drop_take {l : List Int} {p n f K : Nat} (hf : f = min p l.length) (hK : K = min (f + n) l.length - f) : (l.drop f).take K = (l.drop p).take n := by
  apply List.ext_getElem?
  intro j
  simp only [List.getElem?_take, List.getElem?_drop]
  grind
set_option maxHeartbeats 4000000 in
set_option maxRecDepth 100000 in
theorem read_any {F : Nat → Prop} (hAt : TAt w tb cap F M) (hG : TG M cap) (s : ByteArray) (hs : s.size ≤ 1000000) (at_ n : Int) (hat : -9223372036854775808 ≤ at_ ∧ at_ ≤ 9223372036854775807) (hn : -9223372036854775808 ≤ n ∧ n ≤ 9223372036854775807) :
    Calls Try.prog 22 #[.pointer (some ⟨tb, 0, none⟩), .string s, .int .i64 at_, .int .i64 n] w fun e w' => ∃ v, e = .returned (.tuple #[v, .int .i64 (readN M s at_ n).2]) ∧ w'.ownsRow w.heap.size 5 1 v (readN M s at_ n).1.length (u8s (readN M s at_ n).1) ∧ Below w.heap.size w w' := by
  obtain ⟨nb, P, E, V, h, hFt⟩ := hAt
  have HT := Lib.hid h; have HG := Lib.hid hG
  have hf := file_any h s hs
  rw [fileV_eq] at hf
  have HF := Lib.hid hf
  have HW : Hid (readN M s at_ n = match fileN M s with
    | .inr c => ([], c)
    | .inl i => if at_ < 0 ∨ n < 0 ∨ 4096 < n then ([], 22) else (((datN M i).drop at_.toNat).take n.toNat, 0)) := Lib.hid rfl
  obtain ⟨a1, a2⟩ := hat
  obtain ⟨b1, b2⟩ := hn
  clear hFt h hG hf hs
  have hnil : ∀ (w' : World) (c : Int), readN M s at_ n = ([], c) → w'.ownsRow w.heap.size 5 1 (.slice none 0 0) (readN M s at_ n).1.length (u8s (readN M s at_ n).1) := fun w' c hr => by rw [hr]; exact ⟨rfl, .inl ⟨rfl, rfl⟩⟩
  have HNIL := Lib.hid hnil
  clear hnil
  cases hq : fileN M s with
  | inr c =>
    have hc := file_code hq
    have HRES : Hid (readN M s at_ n = ([], c)) := Lib.hid (by rw [HW.out, hq])
    rw [hq] at HF
    have hc2 : (c != 0) = true := by simp [hc]
    clear hq hc HW
    unfold leadV at HF
    go_enter Try.func22, Try.ntmps22
    go_wp2_with fail
    refine HF.out.mono ?_
    rintro e w1 ⟨rfl, hb1⟩
    have HB1 := Lib.hid hb1
    clear hb1 HF
    go_wp2_with fail
    go_ret2
    exact ⟨.slice none 0 0, by rw [HRES.out]; rfl, HNIL.out _ _ HRES.out, HB1.out⟩
  | inl i =>
    obtain ⟨hlk, hdi⟩ := file_in hq
    have hi := look_isin HT.out hlk
    obtain ⟨nd, hm⟩ := Option.isSome_iff_exists.1 hi
    obtain ⟨b, hp, _⟩ := HT.out.at_ hm
    have HLV : leadV P (.inl i) = .tuple #[.pointer (some ⟨b, 0, none⟩), .int .i64 0] := by show Value.tuple #[nptr (P i), _] = _; rw [hp]; rfl
    have hw2 : readN M s at_ n = if at_ < 0 ∨ n < 0 ∨ 4096 < n then ([], 22) else (((datN M i).drop at_.toNat).take n.toNat, 0) := by rw [HW.out, hq]
    have HW2 := Lib.hid hw2
    rw [hq, HLV] at HF
    have HM := Lib.hid hm; have HP := Lib.hid hp
    clear hq hlk hdi hi hm hp HLV hw2 HW
    by_cases hbad : at_ < 0 ∨ n < 0 ∨ 4096 < n
    · have HRES : Hid (readN M s at_ n = ([], 22)) := Lib.hid (by rw [HW2.out, if_pos hbad])
      clear HW2
      by_cases h1 : at_ < 0
      · clear hbad
        go_enter Try.func22, Try.ntmps22
        go_wp2_with fail
        refine HF.out.mono ?_
        rintro e w1 ⟨rfl, hb1⟩
        have HB1 := Lib.hid hb1
        clear hb1 HF
        go_wp2_with fail
        go_ret2
        exact ⟨.slice none 0 0, by rw [HRES.out]; rfl, HNIL.out _ _ HRES.out, HB1.out⟩
      · have e1 : decide (at_ < 0) = false := dec_false h1
        by_cases h2 : n < 0
        · clear hbad
          go_enter Try.func22, Try.ntmps22
          go_wp2_with fail
          refine HF.out.mono ?_
          rintro e w1 ⟨rfl, hb1⟩
          have HB1 := Lib.hid hb1
          clear hb1 HF
          go_wp2_with fail
          go_ret2
          exact ⟨.slice none 0 0, by rw [HRES.out]; rfl, HNIL.out _ _ HRES.out, HB1.out⟩
        · have e2 : decide (n < 0) = false := dec_false h2
          have h3 : 4096 < n := by omega
          have e3 : decide (4096 < n) = true := dec_true h3
          clear hbad
          go_enter Try.func22, Try.ntmps22
          go_wp2_with fail
          refine HF.out.mono ?_
          rintro e w1 ⟨rfl, hb1⟩
          have HB1 := Lib.hid hb1
          clear hb1 HF
          go_wp2_with fail
          go_ret2
          exact ⟨.slice none 0 0, by rw [HRES.out]; rfl, HNIL.out _ _ HRES.out, HB1.out⟩
    · have hres : readN M s at_ n = (((datN M i).drop at_.toNat).take n.toNat, 0) := by rw [HW2.out, if_neg hbad]
      have e1 : decide (at_ < 0) = false := dec_false (by omega)
      have e2 : decide (n < 0) = false := dec_false (by omega)
      have e3 : decide (4096 < n) = false := dec_false (by omega)
      obtain ⟨p, hpn⟩ : ∃ p : Nat, at_ = p := ⟨at_.toNat, by omega⟩
      obtain ⟨q, hqn⟩ : ∃ q : Nat, n = q := ⟨n.toNat, by omega⟩
      have q4 : (q : Int) ≤ 4096 := by omega
      subst hpn hqn
      have hdb := HG.out.byt i
      rw [datN_of HM.out] at hdb hres
      rw [Int.toNat_natCast, Int.toNat_natCast] at hres
      clear HW2 hbad
      go_enter Try.func22, Try.ntmps22
      go_wp2_with fail
      refine HF.out.mono ?_
      rintro e w1 ⟨rfl, hb1⟩
      have hn1 := (HT.out.below hb1).node i b nd HP.out HM.out
      have hd1 := (HT.out.below hb1).data i nd HM.out
      have c2 := cell_blk_some hn1 (i := 2) rfl
      have d1 : (nd.data.length : Int) ≤ 38400 := by omega
      obtain ⟨f, hf⟩ : ∃ f, f = min p nd.data.length := ⟨_, rfl⟩
      obtain ⟨t, ht⟩ : ∃ t, t = min (f + q) nd.data.length := ⟨_, rfl⟩
      rw [← drop_take hf rfl, ← ht] at hres
      have HRES := Lib.hid hres
      have HB1 := Lib.hid hb1
      have m0 : (0 : Int) ≤ (f : Int) := by omega
      have m1 : (f : Int) ≤ (t : Int) := by omega
      have hft : f ≤ t := by omega
      have htl : t ≤ nd.data.length := by omega
      have hw1 : IntKind.i64.wrap ((f : Int) + (q : Int)) = (f : Int) + (q : Int) := IntWalk.i64_in _ (by omega)
      have hsz : ((u8s nd.data).drop f).take (t - f) = u8s ((nd.data.drop f).take (t - f)) := by unfold u8s; rw [List.map_take, List.map_drop]
      have hlen : ((nd.data.drop f).take (t - f)).length = t - f := by rw [List.length_take, List.length_drop]; omega
      have HSZ := Lib.hid hsz; have HLEN := Lib.hid hlen
      rcases hd1.2 with ⟨hva, h0⟩ | ⟨g, c, cur, hva, -, hg, hgc, hgm, hgs, hgt⟩
      · rw [hva] at c2
        have hKi : min ((p : Nat) : Int) 0 = 0 := by omega
        obtain rfl : f = 0 := by omega
        obtain rfl : t = 0 := by omega
        have hKj : min (q : Int) 0 = 0 := by omega
        have hw0 : IntKind.i64.wrap (q : Int) = (q : Int) := IntWalk.i64_in _ (by omega)
        have HCL : Hid (Calls Try.prog 39 #[.slice none 0 0] w1.drew fun e w'' => ∃ v', e = .returned v' ∧ w''.ownsRow w1.drew.heap.size 5 1 v' 0 [] ∧ Below w1.drew.heap.size w1.drew w'') := Lib.hid (cloneB_any (xs := []) ⟨none, 0, rfl, rfl, (fun u hu => by cases hu), fun h => by cases h⟩ (by omega))
        clear hb1 HF hn1 hd1 hdb hva h0 hres hf ht hft htl hsz hlen
        go_wp2_with fail
        go_region_law
          (go_simp; go_at_call 39
           refine HCL.out.mono ?_
           rintro e w2 ⟨v2, rfl, hown2, hb2⟩
           have hb2 : Below w1.heap.size w1 w2 := below_call (below_drewN (Below.refl _ w1) 1) hb2 (Nat.le_refl _)
           obtain ⟨va2, vc2, rfl⟩ := own_shape hown2
           have HB2 := Lib.hid hb2; have HO2 := Lib.hid hown2
           clear hb2 hown2
           dsimp only)
        all_goals
          go_wp2_with fail
          go_ret2
          refine ⟨.slice va2 0 vc2, by rw [HRES.out]; rfl, ?_, below_call HB1.out HB2.out (Nat.le_refl _)⟩
          rw [HRES.out]
          exact own_mono HO2.out HB1.out.size
      · rw [hva] at c2
        have hKi : min ((p : Nat) : Int) ((nd.data.length : Nat) : Int) = (f : Int) := by omega
        have hKj : min ((f : Int) + (q : Int)) ((nd.data.length : Nat) : Int) = (t : Int) := by omega
        have m2 : (t : Int) ≤ (c : Int) := by omega
        have hka : t - f ≤ 1000000 := by omega
        by_cases hcf : c = f
        · have HR0 : Hid (readN M s p q = ([], 0)) := Lib.hid (by rw [hres, show t - f = 0 by omega]; rfl)
          obtain rfl : t = f := by omega
          obtain rfl : c = t := by omega
          have HCL : Hid (Calls Try.prog 39 #[.slice (some ⟨g, 0, none⟩) 0 0] w1.drew fun e w'' => ∃ v', e = .returned v' ∧ w''.ownsRow w1.drew.heap.size 5 1 v' 0 [] ∧ Below w1.drew.heap.size w1.drew w'') := Lib.hid (cloneB_any (xs := []) ⟨_, 0, rfl, rfl, (fun u hu => by cases hu), fun h => by cases h⟩ (by omega))
          clear hb1 HF hn1 hd1 hdb hva hg hgc hgm hgs hgt hres hf ht hft htl hsz hlen HRES
          go_wp2_with fail
          go_region_law
            (go_simp; go_at_call 39
             refine HCL.out.mono ?_
             rintro e w2 ⟨v2, rfl, hown2, hb2⟩
             have hb2 : Below w1.heap.size w1 w2 := below_call (below_drewN (Below.refl _ w1) 1) hb2 (Nat.le_refl _)
             obtain ⟨va2, vc2, rfl⟩ := own_shape hown2
             have HB2 := Lib.hid hb2; have HO2 := Lib.hid hown2
             clear hb2 hown2
             dsimp only)
          all_goals
            go_wp2_with fail
            go_ret2
            refine ⟨.slice va2 0 vc2, by rw [HR0.out]; rfl, ?_, below_call HB1.out HB2.out (Nat.le_refl _)⟩
            rw [HR0.out]
            exact own_mono HO2.out HB1.out.size
        · have HCL : Hid (Calls Try.prog 39 #[.slice (some ⟨g, f, none⟩) (t - f) (c - f)] w1.drew fun e w'' => ∃ v', e = .returned v' ∧ w''.ownsRow w1.drew.heap.size 5 1 v' (t - f) (((u8s nd.data).drop f).take (t - f)) ∧ Below w1.drew.heap.size w1.drew w'') := Lib.hid (cloneB_any ((srcSub (g := g) (f := f) (by rw [← hva]; exact hd1) (u8s_one _) (by omega) (fun _ => rfl)).below (below_drewN (Below.refl _ w1) 1)) hka)
          clear hb1 HF hn1 hd1 hdb hva hg hgc hgm hgs hgt hres hf ht hft htl hsz hlen
          go_wp2_with fail
          go_region_law
            (go_simp; go_at_call 39
             refine HCL.out.mono ?_
             rintro e w2 ⟨v2, rfl, hown2, hb2⟩
             have hb2 : Below w1.heap.size w1 w2 := below_call (below_drewN (Below.refl _ w1) 1) hb2 (Nat.le_refl _)
             obtain ⟨va2, vc2, rfl⟩ := own_shape hown2
             have HB2 := Lib.hid hb2; have HO2 := Lib.hid hown2
             clear hb2 hown2
             dsimp only)
          all_goals
            go_wp2_with fail
            go_ret2
            refine ⟨.slice va2 (t - f) vc2, by rw [HRES.out]; rfl, ?_, below_call HB1.out HB2.out (Nat.le_refl _)⟩
            rw [HRES.out]
            show w2.ownsRow w.heap.size 5 1 _ ((nd.data.drop f).take (t - f)).length (u8s ((nd.data.drop f).take (t - f)))
            rw [HLEN.out, ← HSZ.out]
            exact own_mono HO2.out HB1.out.size
end
end Go.Proofs.Ytoofcnehoffllaa
