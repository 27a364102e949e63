/- Walk of the statement FileNeeds: it returns true. -/
import Derived.Test.YtklamgijikcnaaaDoorF32
import Derived.Test.YtklamgijikcnaaaDoorF23
import Derived.Test.YtklamgijikcnaaaDoorF27
namespace Go.Proofs.YtklamgijikcnaaaDoor
open Go.RowKit

theorem rfind_path : ∀ i : Nat, i < 600 → (rfindN (i : Int)).map (·.ms) = some ((pathN (i : Int)).map (·.1)) := by decide +kernel
/-- k leads to data ahead of the cut. -/
def NeedBy (d : Int → Int) (cut : Int) (k : Int) : Prop := ∃ x : Nat, x < 600 ∧ (x : Int) < cut ∧ d x ≠ 0 ∧ k ∈ (pathN (x : Int)).map (·.1)
theorem needBy_set {d : Int → Int} {cut : Int} {n : Nat} {a : Int} (hn : n < 600) (ha : a ≠ 0) (k : Int) : NeedBy (setD d (n : Int) a) cut k ↔ NeedBy d cut k ∨ ((n : Int) < cut ∧ k ∈ (pathN (n : Int)).map (·.1)) := by
  constructor
  · rintro ⟨x, h1, h2, h3, h4⟩
    by_cases e : (x : Int) = n
    · have : x = n := by omega
      subst this
      exact .inr ⟨h2, h4⟩
    · rw [setD_other e] at h3
      exact .inl ⟨x, h1, h2, h3, h4⟩
  · rintro (⟨x, h1, h2, h3, h4⟩ | ⟨h1, h2⟩)
    · refine ⟨x, h1, h2, ?_, h4⟩
      by_cases e : (x : Int) = n
      · rw [e, setD_self]; exact ha
      · rw [setD_other e]; exact h3
    · exact ⟨n, hn, h1, by rw [setD_self]; exact ha, h2⟩
structure NIn (W : World) (fb nb : Nat) (d : Int → Int) (m : MM) (F : Nat → Prop) (P : Int → Prop) (c : Nat) (wr : World) : Prop where
  one : One W wr fb d m F
  mp : ∃ f, MapIs (Value.int .i64) wr nb (dataF f) ∧ (∀ k, f k ≠ 0 ↔ P k) ∧ ∀ k, 0 ≤ f k ∧ f k ≤ c
  off : ¬ F nb
  low : W.heap.size ≤ nb
theorem NIn.below {W wr w' : World} {fb nb c : Nat} {d : Int → Int} {m : MM} {F : Nat → Prop} {P : Int → Prop} (h : NIn W fb nb d m F P c wr) (hb : Below wr.heap.size wr w') : NIn W fb nb d m F P c w' := by
  obtain ⟨f, h1, h2⟩ := h.mp
  exact ⟨h.one.below hb, ⟨f, h1.fr (S := fun _ => False) (Fr.below hb) id, h2⟩, h.off, h.low⟩
theorem NIn.congr {W wr : World} {fb nb c c' : Nat} {d : Int → Int} {m : MM} {F : Nat → Prop} {P P' : Int → Prop} (h : NIn W fb nb d m F P c wr) (hp : ∀ k, P k ↔ P' k) (hc : c ≤ c') : NIn W fb nb d m F P' c' wr := by
  obtain ⟨f, h1, h2, h3⟩ := h.mp
  exact ⟨h.one, ⟨f, h1, fun k => (h2 k).trans (hp k), fun k => ⟨(h3 k).1, by have := (h3 k).2; omega⟩⟩, h.off, h.low⟩
def NSt (W : World) (fb nb : Nat) (cut : Int) (i : Nat) (wr : World) : Prop := (∃ d m F, NIn W fb nb d m F (NeedBy d cut) (3 * i) wr) ∧ i ≤ 40
theorem NIn.look {W wr : World} {fb nb c : Nat} {d : Int → Int} {m : MM} {F : Nat → Prop} {P : Int → Prop} (h : NIn W fb nb d m F P c wr) (k : Int) :
    ∃ z : Int, 0 ≤ z ∧ z ≤ c ∧ (z ≠ 0 ↔ P k) ∧ (Instr.lookup 27 (.map (some nb)) (.int .i64 k) false).run Tryd.prog wr = .ok (.int .i64 z) wr ∧
      ∃ w2, (Instr.mapUpdate 27 (.map (some nb)) (.int .i64 k) (.int .i64 (z + 1))).run Tryd.prog wr = .ok () w2 ∧ NIn W fb nb d m F (fun x => P x ∨ x = k) (c + 1) w2 ∧ Fr (fun x => x = nb) wr w2 := by
  obtain ⟨f, h1, h2, h3⟩ := h.mp
  obtain ⟨w2, hup, hM, hf⟩ := h1.put klI Tryd.underlying27 k (.int .i64 (f k + 1))
  have hk := h3 k
  refine ⟨f k, hk.1, hk.2, h2 k, dataF_look h1 k, w2, hup, ⟨h.one.fr hf (fun q hq e => h.off (by rw [← show q = nb from e]; exact hq)) (fun q hq => by rw [show q = nb from hq]; exact h.low), ⟨setD f k (f k + 1), ?_, fun x => ?_, fun x => ?_⟩, h.off, h.low⟩, hf⟩
  · rw [dataF_setD (by omega)]; exact hM
  · by_cases e : x = k
    · subst e; rw [setD_self]
      exact ⟨fun _ => .inr rfl, fun _ => by omega⟩
    · rw [setD_other e, h2 x]
      exact ⟨.inl, fun h => h.resolve_right e⟩
  · by_cases e : x = k
    · subst e; rw [setD_self]; omega
    · rw [setD_other e]; have := h3 x; omega

structure NRow (W : World) (fb nb : Nat) (d : Int → Int) (m : MM) (F : Nat → Prop) (P : Int → Prop) (c : Nat) (v : Value) (L : List Int) (j : Nat) (wr : World) : Prop where
  ni : NIn W fb nb d m F (fun k => P k ∨ k ∈ L.take j) (c + j) wr
  row : RowI wr W.heap.size v L
theorem NRow.off {W wr : World} {fb nb c j : Nat} {d : Int → Int} {m : MM} {F : Nat → Prop} {P : Int → Prop} {v : Value} {L : List Int} (h : NRow W fb nb d m F P c v L j wr) (hl : 0 < L.length) : ∀ g, v.ownBlock = some g → ¬ g = nb := fun g hg e => by
  obtain ⟨f, ⟨es, cl, hm, _⟩, _⟩ := h.ni.mp
  obtain ⟨a, c', rfl, _, hr⟩ := h.row
  obtain ⟨g2, cur, rfl, _, hb, _⟩ := hr hl
  injection hg with hg
  subst hg
  rw [show g2 = nb from e, hm] at hb
  injection hb with hb
  cases hb
set_option maxHeartbeats 8000000 in
set_option maxRecDepth 100000 in
theorem lawNeeds_any (v : Value) (xs : List Int) (cut : Int) (W : World) (S : SpanAt W) (hv : ArgI W v xs) :
    Calls Tryd.prog 3 #[v, .int .i64 cut] W fun e w' => e = .returned (.bool true) ∧ Below W.heap.size W w' := by
  obtain ⟨av, cv, rfl, hxs⟩ := hv
  have HX := Lib.hid hxs
  obtain ⟨ct, hct, hctw⟩ := rest_of cut 601 (by decide) (by decide)
  have HK := Lib.hid hctw
  rw [show ((601 : Nat) : Int) = 601 from rfl] at HK
  have HN := Lib.hid (onew_any S)
  clear hxs hctw S
  have mm := fun w => run_makeMap (P := Tryd.prog) 27 w
  go_enter Tryd.func3, Tryd.ntmps3
  go_wp2_with fail
  refine HN.out.mono ?_
  rintro e w1 ⟨rfl, F1, T1⟩
  have HA := Lib.hid (awake_any T1.f.span)
  have T1' := Lib.hid T1
  clear T1
  go_wp2_with fail
  refine HA.out.mono ?_
  rintro e w2 ⟨rfl, hb2⟩
  have T2 := T1'.out.below hb2
  have hst : NSt W (W.heap.size + 2) w2.heap.size (ct : Int) 0 (w2.alloc (.map #[] 0)) := ⟨⟨_, _, _, T2.alloc _, ⟨fun _ => 0, by rw [dataF_zero]; exact MapIs.new _ _ _ (blk_new rfl), fun k => ⟨fun h => absurd rfl h, fun ⟨_, _, _, h, _⟩ => absurd rfl h⟩, fun k => ⟨Int.le_refl _, by show (0 : Int) ≤ _; omega⟩⟩, fun h => by have := T2.f.lt _ h; omega, T2.bel.size⟩, by omega⟩
  have K0 := Lib.hid hst
  clear hst T2 hb2 HA T1' HN
  go_wp2_with fail
  rw [HK.out]
  generalize w2.alloc (.map #[] 0) = w3 at K0 ⊢
  generalize w2.heap.size = nb at K0 ⊢
  generalize W.heap.size + 2 = fb at K0 ⊢
  go_loopw [7] (fun idx wr => ∃ i : Nat, i ≤ xs.length ∧ idx = .int .i64 i ∧ NSt W fb nb ct i wr) (fun idx _ => xs.length - (RowKit.intOf idx).toNat)
  case atStart => exact ⟨0, by omega, rfl, K0.out⟩
  case round =>
    obtain ⟨i, hi, rfl, hst⟩ := hrel
    clear K0
    obtain ⟨⟨d, m, F, hin⟩, hi40⟩ := hst
    have HIN := Lib.hid hin
    clear hin
    by_cases hgo : i < xs.length ∧ i < 40
    · obtain ⟨hg1, hg2⟩ := hgo
      obtain ⟨g, o, rfl, hg, hcell⟩ := HX.out (by omega)
      have hc := (HIN.out.one.bel.cell (p := ⟨g, o + i, none⟩) hg).trans (hcell i hg1)
      obtain ⟨x, hxe⟩ : ∃ x, x = xs.getD i 0 := ⟨_, rfl⟩
      rw [← hxe] at hc
      obtain ⟨n, hn, hnw⟩ := rest_of x 600 (by decide) (by decide)
      have HNW := Lib.hid hnw
      rw [show ((600 : Nat) : Int) = 600 from rfl] at HNW
      have hsr := Lib.hid (oset_data HIN.out.one (n := n) (a := (i : Int) + 1) ⟨by omega, by omega⟩ ⟨by omega, by omega⟩)
      have b0 : (0 : Int) ≤ (i : Int) := by omega
      have b1 : (i : Int) < (xs.length : Int) := by omega
      clear hcell hnw hxe
      go_wp2_with fail
      rw [HNW.out]
      refine hsr.out.mono ?_
      rintro e w4 ⟨v4, F4, rfl, _, T4, ha4⟩
      have hd4 := (setS_ok HIN.out.one.inv (n := n) (a := (i : Int) + 1) ⟨by omega, by omega⟩).1
      rw [hd4] at T4
      obtain ⟨f, hM, hf1, hf2⟩ := HIN.out.mp
      have H4 : Hid (NIn W fb nb (setD d n ((i : Int) + 1)) (setS d m n ((i : Int) + 1)).2.1 F4 (NeedBy d ct) (3 * i) w4) := Lib.hid ⟨T4, ⟨f, hM.fr ha4.fr HIN.out.off, hf1, hf2⟩, ha4.off hM.lt HIN.out.off, HIN.out.low⟩
      have hnb := needBy_set (d := d) (cut := (ct : Int)) (n := n) (a := (i : Int) + 1) hn (by omega)
      have HNB := Lib.hid hnb
      clear T4 ha4 hd4 hsr hc hM hf1 hf2 HIN hnb
      by_cases hnc : n < ct
      · obtain ⟨r, hr⟩ : ∃ r, rfindN (n : Int) = some r := by
          have := rfind_path n hn
          cases hq : rfindN (n : Int) with
          | none => rw [hq] at this; cases this
          | some r => exact ⟨r, rfl⟩
        have hms : r.ms = (pathN (n : Int)).map (·.1) := by
          have := rfind_path n hn
          rw [hr] at this
          exact Option.some.inj this
        have hml : r.ms.length ≤ 3 := by rw [hms, List.length_map]; exact path_short n hn
        have hF := rfind_any (n : Int) w4
        have HF := Lib.hid hF; have HR := Lib.hid hr; have HMS := Lib.hid hms
        clear hF hr hms
        go_wp2_with fail
        refine HF.out.mono ?_
        rintro e w5 ⟨⟨xn, xl, xf, xr, xm, xs'⟩, rfl, hx, hb5⟩
        rw [HR.out] at hx
        have hms5 : RowI w5 w4.heap.size xm r.ms := hx.ms
        have hss5 : RowI w5 w4.heap.size xs' r.ss := hx.ss
        obtain ⟨ma, mc, rfl⟩ := hms5.shape
        obtain ⟨sa, sc, rfl⟩ := hss5.shape
        have H5 := Lib.hid (H4.out.below hb5)
        dsimp only [MetaV.flat]
        have hx6 := hms5.below ((Below.refl _ w5).alloc (Nat.le_refl _) (.cells #[.int .i64 xn, .int .i64 xl, .int .i64 xf, .int .i64 xr, .slice ma r.ms.length mc, .slice sa r.ss.length sc] 34))
        have ST : Hid (NRow W fb nb (setD d n ((i : Int) + 1)) (setS d m n ((i : Int) + 1)).2.1 F4 (NeedBy d ct) (3 * i) (.slice ma r.ms.length mc) r.ms 0 (w5.alloc (.cells #[.int .i64 xn, .int .i64 xl, .int .i64 xf, .int .i64 xr, .slice ma r.ms.length mc, .slice sa r.ss.length sc] 34))) :=
          Lib.hid ⟨(H5.out.below ((Below.refl _ w5).alloc (Nat.le_refl _) _)).congr (fun k => by rw [List.take_zero]; simp) (by omega), hx6.mono H4.out.one.bel.size⟩
        clear hx hms5 hss5 hx6 H5 hb5 HF H4
        go_wp2_with fail
        generalize w5.alloc (.cells #[.int .i64 xn, .int .i64 xl, .int .i64 xf, .int .i64 xr, .slice ma r.ms.length mc, .slice sa r.ss.length sc] 34) = w6 at ST ⊢
        go_loopw [71] (fun idx wr => ∃ j : Nat, j ≤ r.ms.length ∧ idx = .int .i64 j ∧ NRow W fb nb (setD d n ((i : Int) + 1)) (setS d m n ((i : Int) + 1)).2.1 F4 (NeedBy d ct) (3 * i) (.slice ma r.ms.length mc) r.ms j wr) (fun idx _ => r.ms.length - (RowKit.intOf idx).toNat)
        case atStart => exact ⟨0, by omega, rfl, ST.out⟩
        case round =>
          obtain ⟨j, hj, rfl, hst⟩ := hrel
          clear ST
          have HS := Lib.hid hst
          clear hst
          by_cases hjl : j < r.ms.length
          · obtain ⟨k, hk⟩ : ∃ k, r.ms[j]? = some k := ⟨_, List.getElem?_eq_getElem hjl⟩
            obtain ⟨gg, cc, he, hlc, _, hgl, hcell⟩ := HS.out.row.cells (by omega)
            injection he with h1 h3 h2
            clear h3
            subst h1 h2
            have k0 := hcell j k hk
            obtain ⟨z, hz0, hz1, _, lk, w7, hup, hin7, hf7⟩ := HS.out.ni.look k
            have hz2 : z ≤ 1000 := by omega
            have b2 : (0 : Int) ≤ (j : Int) := by omega
            have b3 : (j : Int) < (r.ms.length : Int) := by omega
            have HS7 : Hid (NRow W fb nb (setD d n ((i : Int) + 1)) (setS d m n ((i : Int) + 1)).2.1 F4 (NeedBy d ct) (3 * i) (.slice (some ⟨gg, 0, none⟩) r.ms.length mc) r.ms (j + 1) w7) := Lib.hid ⟨hin7.congr (fun x => by rw [take_at hk, List.mem_append, List.mem_singleton, or_assoc]) (by omega), HS.out.row.fr' hf7 fun h => HS.out.off h⟩
            clear hcell hk hin7 hf7 hz1
            go_wp2_with fail
            go_roundw
            case rel => exact ⟨j + 1, by omega, by go_num, HS7.out⟩
            case measure => simp only [RowKit.intOf]; omega
          · obtain rfl : j = r.ms.length := by omega
            have FIN : Hid (NSt W fb nb ct (i + 1) wr) := Lib.hid ⟨⟨_, _, F4, HS.out.ni.congr (fun k => by rw [List.take_length, HNB.out k, HMS.out]; exact ⟨fun h => h.imp id fun h => ⟨by omega, h⟩, fun h => h.imp id fun h => h.2⟩) (by omega)⟩, by omega⟩
            clear HS
            go_wp2_with fail
            go_roundw
            case rel => exact ⟨i + 1, by omega, by go_num, FIN.out⟩
            case measure => simp only [RowKit.intOf]; omega
      · have FIN : Hid (NSt W fb nb ct (i + 1) w4) := Lib.hid ⟨⟨_, _, F4, H4.out.congr (fun k => by rw [HNB.out k]; exact ⟨.inl, fun h => h.resolve_right fun h => by omega⟩) (by omega)⟩, by omega⟩
        clear H4
        go_wp2_with fail
        go_roundw
        case rel => exact ⟨i + 1, by omega, by go_num, FIN.out⟩
        case measure => simp only [RowKit.intOf]; omega
    · have hCUT := Lib.hid (ocut_any HIN.out.one (from_ := (ct : Int)) ⟨by omega, by omega⟩)
      have hend : xs.length ≤ i ∨ (i < xs.length ∧ 40 ≤ i) := by omega
      clear hgo
      rcases hend with hend | ⟨hend, hend2⟩
      all_goals
        go_wp2_with fail
        refine hCUT.out.mono ?_
        rintro e w4 ⟨v4, F4, d', m', rfl, hd', _, _, _, T4, ha4⟩
        obtain ⟨f, hM, hf1, hf2⟩ := HIN.out.mp
        have hcov : ∀ k, (m' k).isSome = true ↔ f k ≠ 0 := fun k => by
          rw [cov T4.inv k, hf1 k]
          constructor
          · rintro ⟨x, h1, h2, h3⟩
            rw [hd' x] at h2
            split at h2
            · exact absurd rfl h2
            · exact ⟨x, h1, by omega, h2, h3⟩
          · rintro ⟨x, h1, h2, h3, h4⟩
            exact ⟨x, h1, by rw [hd' x, if_neg (by omega)]; exact h3, h4⟩
        have H4 : Hid (NIn W fb nb d' m' F4 (fun k => (m' k).isSome = true) (3 * i) w4) := Lib.hid ⟨T4, ⟨f, hM.fr ha4.fr HIN.out.off, fun k => (hcov k).symm, hf2⟩, ha4.off hM.lt HIN.out.off, HIN.out.low⟩
        have hMT := Lib.hid (metas_any T4.f)
        clear hd' hM hf1 hf2 hcov T4 ha4 hCUT HIN
        go_wp2_with fail
        refine hMT.out.mono ?_
        rintro e w5 ⟨mv, rfl, hr5, hb5⟩
        have hml : (metasOf m').length ≤ 42 := by
          have h1 : metasN.length = 42 := by decide +kernel
          have h2 : (metasOf m').length ≤ metasN.length := by unfold metasOf; exact List.length_filter_le _ _
          omega
        have hnd : (metasOf m').Nodup := metasN_nodup.sublist List.filter_sublist
        have hmem : ∀ k, k ∈ metasOf m' ↔ (m' k).isSome = true := fun k => by
          unfold metasOf
          rw [List.mem_filter]
          exact ⟨fun h => h.2, fun h => ⟨H4.out.one.inv.metas h, h⟩⟩
        obtain ⟨xp, yp, rfl⟩ := hr5.shape
        have ST : Hid (NRow W fb nb d' m' F4 (fun k => (m' k).isSome = true) (3 * i) (.slice xp (metasOf m').length yp) (metasOf m') 0 w5) := Lib.hid ⟨(H4.out.below hb5).congr (fun k => by rw [List.take_zero]; simp) (by omega), hr5.mono H4.out.one.bel.size⟩
        have HND := Lib.hid hnd; have HMEM := Lib.hid hmem
        clear hr5 hb5 hnd hmem H4 hMT
        generalize metasOf m' = L at *
        go_wp2_with fail
        go_loop [92] (fun idx => ∃ j : Nat, j ≤ L.length ∧ idx = .int .i64 j) (fun idx => L.length - (RowKit.intOf idx).toNat)
        case atStart => exact ⟨0, by omega, rfl⟩
        case round =>
          obtain ⟨j, hj, rfl⟩ := hrel
          by_cases hjl : j < L.length
          · obtain ⟨k, hk⟩ : ∃ k, L[j]? = some k := ⟨_, List.getElem?_eq_getElem hjl⟩
            obtain ⟨gg, cc, he, hlc, _, hgl, hcell⟩ := ST.out.row.cells (by omega)
            injection he with h1 h3 h2
            clear h3
            subst h1 h2
            have k0 := hcell j k hk
            obtain ⟨z, hz0, hz1, hz3, lk, _⟩ := ST.out.ni.look k
            have hz : (z == 0) = false := beq_eq_false_iff_ne.2 (hz3.2 (.inl ((HMEM.out k).1 (List.mem_of_getElem? hk))))
            have b2 : (0 : Int) ≤ (j : Int) := by omega
            have b3 : (j : Int) < (L.length : Int) := by omega
            clear hcell hk hz1 hz3
            go_wp2_with fail
            go_round
            case rel => exact ⟨j + 1, by omega, by go_num⟩
            case measure => simp only [RowKit.intOf]; omega
          · obtain ⟨f, hM, hf1, hf2⟩ := ST.out.ni.mp
            have hlen := hM.len klI Tryd.underlying27 HND.out (fun k => by
              rw [HMEM.out]
              have := hf1 k
              rw [List.take_zero] at this
              unfold dataF
              by_cases h0 : f k = 0
              · rw [if_pos h0]
                exact ⟨fun h => absurd h0 (this.2 (.inl h)), fun h => by cases h⟩
              · rw [if_neg h0]
                exact ⟨fun _ => rfl, fun _ => (this.1 h0).resolve_right (by simp)⟩) 3
            clear hM hf1 hf2
            go_wp2_with fail
            go_ret
            exact ⟨rfl, ST.out.ni.one.bel⟩
end Go.Proofs.YtklamgijikcnaaaDoor
