/- Two maps of the same addresses; their roots compared. -/
/- Walk of the statement FileBack: it returns true. -/
import Derived.Test.YtklamgijikcnaaaDoorF44
namespace Go.Proofs.YtklamgijikcnaaaDoor
open Go.RowKit

section
variable {d d' : Int → Int} {m m' : MM}
theorem same_data (h : Inv d m) (h' : Inv d' m') (he : adr d' m' = adr d m) : d' = d := by
  funext x
  by_cases hx : 0 ≤ x
  · have := congrFun he x
    rwa [adr_data hx, adr_data hx] at this
  · rw [h.neg (by omega), h'.neg (by omega)]
theorem same_some (h : Inv d m) (h' : Inv d' m') (he : adr d' m' = adr d m) (k : Int) : (m' k).isSome = (m k).isSome := by
  rw [Bool.eq_iff_iff, cov h k, cov h' k, same_data h h' he]
theorem same_metas (h : Inv d m) (h' : Inv d' m') (he : adr d' m' = adr d m) : metasOf m' = metasOf m := by
  unfold metasOf
  exact List.filter_congr fun k _ => same_some h h' he k
theorem same_places (h : Inv d m) (h' : Inv d' m') (he : adr d' m' = adr d m) : placesOf d' m' = placesOf d m := by
  unfold placesOf placesD placesM
  rw [same_data h h' he, same_metas h h' he]
  have hk : ∀ k ∈ metasOf m, adrM m' k = adrM m k := fun k hk => by
    have hn := (metasN_neg k (List.mem_filter.1 hk).1).1
    have := congrFun he k
    rwa [adr_meta hn, adr_meta hn] at this
  congr 1
  rw [List.filter_congr (q := fun k => decide (adrM m k ≠ 0)) fun k hk' => by rw [hk k hk']]
  exact List.map_congr_left fun k hk' => by rw [hk k (List.mem_filter.1 hk').1]
theorem rootW_eq (hb : ∀ c, 0 ≤ adr d m c ∧ adr d m c < 4096) : rootW d m = u32s (rootL d m) := by
  unfold rootW u32s rootL
  rw [List.map_map]
  refine List.map_congr_left fun c _ => ?_
  have := hb c
  show Value.int .u32 (IntKind.u32.wrap (adr d m c)) = .int .u32 (adr d m c)
  rw [show IntKind.u32.wrap (adr d m c) = adr d m c % 4294967296 by simp [IntKind.wrap, IntKind.bits, IntKind.signed]]
  congr 1
  omega
theorem same_root (he : adr d' m' = adr d m) : rootW d' m' = rootW d m := by unfold rootW; rw [he]
end
theorem eqIn_root (dp : Nat) (d : Int → Int) (m : MM) (w : World) : (Op.equalIn (dp + 2) 55 (.agg (rootW d m).toArray) (.agg (rootW d m).toArray)).run Tryd.prog w = .ok true w := by
  obtain ⟨i, hi⟩ : ∃ i, Tryd.prog.info? 54 = some i := Option.isSome_iff_exists.1 (by kernel_rfl)
  have hs : i.size = 1 := by
    have : (Tryd.prog.info? 54).map (·.size) = some 1 := by kernel_rfl
    rw [hi] at this; exact Option.some.inj this
  rw [run_equalIn_array (dp + 1) _ 54 9 Tryd.underlying55 i hi, hs]
  rw [run_eqElems (dp + 1) _ 1 _ _ (fun _ => true)]
  · rfl
  · intro j hj
    have hjn := List.mem_range.1 hj
    obtain ⟨a, ha⟩ : ∃ a, (rootW d m)[j]? = some (.int .u32 a) := ⟨_, by unfold rootW; rw [List.getElem?_map, List.getElem?_eq_getElem (show j < rootsN.length from hjn)]; rfl⟩
    have hag := Tryd.isAgg54
    refine ⟨.int .u32 a, .int .u32 a, ?_, ?_, ?_⟩
    · simp [part, hag, ha]
    · simp [part, hag, ha]
    · go_simp
end Go.Proofs.YtklamgijikcnaaaDoor

namespace Go.Proofs.YtklamgijikcnaaaDoor
open Go.RowKit

theorem count_one : ∀ {T : List Int} {k : Int}, T.Nodup → k ∈ T → T.count k = 1
  | [], _, _, h => by cases h
  | x :: T, k, hn, h => by
    obtain ⟨h1, h2⟩ := List.nodup_cons.1 hn
    by_cases e : x = k
    · subst e
      rw [List.count_cons_self, List.count_eq_zero.2 h1]
    · rw [List.count_cons_of_ne e]
      exact count_one h2 ((List.mem_cons.1 h).resolve_left fun h => e h.symm)
theorem askF_some (T : List Int) (y : Int) : y ∈ T ↔ (askF T y).isSome = true := by
  unfold askF
  by_cases h : y ∈ T
  · rw [if_pos h]; exact ⟨fun _ => rfl, fun _ => h⟩
  · rw [if_neg h]; exact ⟨fun h' => absurd h' h, fun h' => by cases h'⟩
/-- While data are set. -/
structure BkIn (W : World) (fb mvb : Nat) (next : Int) (i : Nat) (wr : World) (d : Int → Int) (m : MM) (F : Nat → Prop) : Prop where
  one : One W wr fb d m F
  mc : wr.heap[mvb]? = some (.cells #[.pointer (some ⟨fb, 0, none⟩)] 23 (0, 0))
  mo : ¬ F mvb ∧ W.heap.size ≤ mvb
  uq : UniqA (adr d m)
  lv : ∀ y, liveA (adr d m) y → 100 ≤ y ∧ y < next
  nx : 100 ≤ next ∧ next ≤ 100 + i
def BaSt (W : World) (fb mvb : Nat) (next : Int) (i : Nat) (wr : World) : Prop := (∃ d m F, BkIn W fb mvb next i wr d m F) ∧ i ≤ 60
/-- A Set of something unlike. -/
theorem BkIn.next {W wr w' : World} {fb mvb i : Nat} {next n : Int} {d d' : Int → Int} {m m' : MM} {F F' : Nat → Prop} (h : BkIn W fb mvb next i wr d m F) (T : One W w' fb d' m' F') (ha : Aft wr w' F F') (hm : MoveA (adr d m) (adr d' m') n next) : BkIn W fb mvb (next + 1) (i + 1) w' d' m' F' :=
  ⟨T, (ha.fr.block _ (blk_lt h.mc) h.mo.1).trans h.mc, ⟨ha.off (blk_lt h.mc) h.mo.1, h.mo.2⟩, hm.uniq h.uq, fun y hy => by
    have := ((hm.live h.uq y).1 hy).1
    rcases this with hy | ⟨_, hy⟩
    · have := h.lv y hy; omega
    · have := h.nx; omega, by have := h.nx; omega⟩
theorem BkIn.fresh {W wr : World} {fb mvb i : Nat} {next : Int} {d : Int → Int} {m : MM} {F : Nat → Prop} (h : BkIn W fb mvb next i wr d m F) : ¬ liveA (adr d m) next := fun hy => by have := h.lv _ hy; omega
theorem BkIn.below {W wr w' : World} {fb mvb i : Nat} {next : Int} {d : Int → Int} {m : MM} {F : Nat → Prop} (h : BkIn W fb mvb next i wr d m F) (hb : Below wr.heap.size wr w') : BkIn W fb mvb next i w' d m F :=
  ⟨h.one.below hb, (hb.block _ (blk_lt h.mc)).trans h.mc, h.mo, h.uq, h.lv, h.nx⟩
/-- While blocks of pointers are told. -/
structure BkMt (W : World) (fb mvb wvb wb : Nat) (next : Int) (i j : Nat) (L : List Int) (v : Value) (wr : World) (d : Int → Int) (m0 m : MM) (F : Nat → Prop) (f : Int → Option Value) : Prop where
  b : BkIn W fb mvb next i wr d m F
  wc : wr.heap[wvb]? = some (.cells #[.map (some wb)] 27 (0, 0))
  wm : MapIs (Value.int .i64) wr wb f
  wo : ¬ F wvb ∧ W.heap.size ≤ wvb ∧ ¬ F wb ∧ W.heap.size ≤ wb ∧ wvb ≠ wb ∧ mvb ≠ wb
  ex : ∀ k, (m k).isSome = (m0 k).isSome
  dn : ∀ k ∈ L.take j, adr d m k ≠ 0 ∧ f (adr d m k) = some (.int .i64 k)
  ints : IntsF f
  row : RowI wr W.heap.size v L

set_option maxHeartbeats 8000000 in
set_option maxRecDepth 100000 in
theorem lawBack_any (v : Value) (xs : List Int) (W : World) (S : SpanAt W) (hv : ArgI W v xs) :
    Calls Tryd.prog 7 #[v] W fun e w' => e = .returned (.bool true) ∧ Below W.heap.size W w' := by
  obtain ⟨av, cv, rfl, hxs⟩ := hv
  have HX := Lib.hid hxs
  have HN := Lib.hid (onew_any S)
  clear hxs S
  have mm := fun w => run_makeMap (P := Tryd.prog) 27 w
  go_enter Tryd.func7, Tryd.ntmps7
  go_wp2_with fail
  refine HN.out.mono ?_
  rintro e w1 ⟨rfl, F1, T1⟩
  have HA := Lib.hid (awake_any (T1.f.span.alloc (.cells #[.pointer (some ⟨W.heap.size + 2, 0, none⟩)] 23)))
  have T1' := Lib.hid T1
  clear T1
  go_wp2_with fail
  refine HA.out.mono ?_
  rintro e w2 ⟨rfl, hb2⟩
  have hb2' : Below w1.heap.size w1 w2 := ((Below.refl _ w1).alloc (Nat.le_refl _) _).trans (hb2.mono (by simp))
  have hst : BaSt W (W.heap.size + 2) w1.heap.size 100 0 w2 := ⟨⟨_, _, _, T1'.out.below hb2', (hb2.block _ (by simp)).trans (blk_new rfl), ⟨fun h => by have := T1'.out.f.lt _ h; omega, T1'.out.bel.size⟩, by rw [adr_zero]; exact UniqA.zero, fun y hy => by rw [adr_zero] at hy; exact absurd hy.2.choose_spec.symm hy.1, by omega⟩, by omega⟩
  have K0 := Lib.hid hst
  have cm2 : w2.cell? ⟨w1.heap.size, 0, none⟩ = some (.pointer (some ⟨W.heap.size + 2, 0, none⟩)) := cell_blk_some ((hb2.block _ (by simp)).trans (blk_new rfl)) rfl
  clear hst hb2 hb2' HA T1' HN
  go_wp2_with fail
  clear cm2
  generalize w1.heap.size = mvb at K0 ⊢
  generalize W.heap.size + 2 = fb at K0 ⊢
  go_loopw [4, 5] (fun nx idx wr => ∃ (next : Int) (i : Nat), i ≤ xs.length ∧ nx = .int .i64 next ∧ idx = .int .i64 i ∧ BaSt W fb mvb next i wr) (fun _ idx _ => xs.length - (RowKit.intOf idx).toNat)
  case atStart => exact ⟨100, 0, by omega, rfl, rfl, K0.out⟩
  case round =>
    obtain ⟨next, i, hi, rfl, rfl, hst⟩ := hrel
    clear K0
    obtain ⟨⟨d, m, F, hb⟩, hi60⟩ := hst
    have HB := Lib.hid hb
    have hnx := hb.nx
    have cm := cell_blk_some hb.mc (i := 0) rfl
    clear hb
    by_cases hgo : i < xs.length ∧ i < 60
    · obtain ⟨hg1, hg2⟩ := hgo
      obtain ⟨g, o, rfl, hg, hcell⟩ := HX.out (by omega)
      have hc := (HB.out.one.bel.cell (p := ⟨g, o + i, none⟩) hg).trans (hcell i hg1)
      obtain ⟨x, hxe⟩ : ∃ x, x = xs.getD i 0 := ⟨_, rfl⟩
      rw [← hxe] at hc
      obtain ⟨n, hn, hnw⟩ := rest_of x 600 (by decide) (by decide)
      have HNW := Lib.hid hnw
      rw [show ((600 : Nat) : Int) = 600 from rfl] at HNW
      have hH := has_any HB.out.one.f (n : Int)
      have hbs : hasB d m (n : Int) = decide (d (n : Int) ≠ 0) := by unfold hasB; rw [HB.out.one.inv.data (by omega)]; simp
      rw [hbs] at hH
      have hsr := Lib.hid (oset_data HB.out.one (n := n) (a := next) ⟨by omega, by omega⟩ ⟨by omega, by omega⟩)
      have b0 : (0 : Int) ≤ (i : Int) := by omega
      have b1 : (i : Int) < (xs.length : Int) := by omega
      clear hcell hnw hxe hbs
      by_cases hd : d (n : Int) = 0
      · rw [dec_false (p := d (n : Int) ≠ 0) (by simp [hd])] at hH
        have HH := Lib.hid hH
        have hmv := set_moveD HB.out.one.inv (n := n) (a := next) ⟨by omega, by omega⟩ (fun _ => HB.out.fresh)
        have HMV := Lib.hid hmv
        clear hH hd hmv
        go_wp2_with fail
        rw [HNW.out]
        refine HH.out.mono ?_
        rintro e w4 ⟨rfl, rfl⟩
        go_wp2_with fail
        refine hsr.out.mono ?_
        rintro e w5 ⟨v5, F5, rfl, _, T5, ha5⟩
        have K1 : Hid (BaSt W fb mvb (next + 1) (i + 1) w5) := Lib.hid ⟨⟨_, _, _, HB.out.next T5 ha5 HMV.out⟩, by omega⟩
        clear T5 ha5 hsr hc cm HH HMV HB
        go_wp2_with fail
        go_roundw
        case rel => exact ⟨next + 1, i + 1, by omega, rfl, by go_num, K1.out⟩
        case measure => simp only [RowKit.intOf]; omega
      · rw [dec_true (p := d (n : Int) ≠ 0) (by simp [hd])] at hH
        have HH := Lib.hid hH
        have K1 : Hid (BaSt W fb mvb next (i + 1) wr) := Lib.hid ⟨⟨d, m, F, HB.out.one, HB.out.mc, HB.out.mo, HB.out.uq, HB.out.lv, by omega⟩, by omega⟩
        clear hH hd hsr
        go_wp2_with fail
        rw [HNW.out]
        refine HH.out.mono ?_
        rintro e w4 ⟨rfl, rfl⟩
        go_wp2_with fail
        go_roundw
        case rel => exact ⟨next, i + 1, by omega, rfl, by go_num, K1.out⟩
        case measure => simp only [RowKit.intOf]; omega
    · have hMT := Lib.hid (metas_any HB.out.one.f)
      have hend : xs.length ≤ i ∨ (i < xs.length ∧ 60 ≤ i) := by omega
      clear hgo
      rcases hend with hend | ⟨hend, hend2⟩
      all_goals
        go_wp2_with fail
        refine hMT.out.mono ?_
        rintro e w3 ⟨v3, rfl, hr3, hb3⟩
        have hml : (metasOf m).length ≤ 42 := by
          have h1 : metasN.length = 42 := by decide +kernel
          have h2 : (metasOf m).length ≤ metasN.length := by unfold metasOf; exact List.length_filter_le _ _
          omega
        have hmem : ∀ k, k ∈ metasOf m ↔ (m k).isSome = true := fun k => by
          unfold metasOf
          rw [List.mem_filter]
          exact ⟨fun h => h.2, fun h => ⟨HB.out.one.inv.metas h, h⟩⟩
        have hnd : (metasOf m).Nodup := metasN_nodup.sublist List.filter_sublist
        have HB3 := Lib.hid (HB.out.below hb3)
        have hz3 : W.heap.size ≤ w3.heap.size := HB3.out.one.bel.size
        obtain ⟨x3, y3, rfl⟩ := hr3.shape
        obtain ⟨w4, hw4⟩ : ∃ w4, w4 = (w3.alloc (.map #[] 0)).alloc (.cells #[.map (some w3.heap.size)] 27) := ⟨_, rfl⟩
        have hb4 : Below w3.heap.size w3 w4 := by rw [hw4]; exact ((Below.refl _ w3).alloc (Nat.le_refl _) _).alloc (by simp) _
        have hFl : ∀ x, F x → x < w3.heap.size := fun x hx => HB3.out.one.f.lt x hx
        have ST : Hid (BkMt W fb mvb (w3.heap.size + 1) w3.heap.size next i 0 (metasOf m) (.slice x3 (metasOf m).length y3) w4 d m m F fun _ => none) :=
          Lib.hid ⟨HB3.out.below hb4, by rw [hw4]; exact blk_new (by simp), MapIs.new _ _ _ (by rw [hw4]; exact blk_old (blk_new rfl)), ⟨fun h => by have := hFl _ h; omega, by omega, fun h => by have := hFl _ h; omega, by omega, by omega, by have := blk_lt HB3.out.mc; omega⟩, fun _ => rfl, fun k hk => by rw [List.take_zero] at hk; (cases hk), fun a v h => (by cases h), (hr3.below hb4).mono HB.out.one.bel.size⟩
        have HMEM := Lib.hid hmem; have HND := Lib.hid hnd
        clear hr3 hb3 hmem hnd HB3 hb4 hFl hMT HB cm
        have hi60' : (i : Int) ≤ 60 := by omega
        go_wp2_with fail
        rw [← hw4]
        clear hw4
        generalize w3.heap.size + 1 = wvb at ST ⊢
        generalize w3.heap.size = wb at ST ⊢
        generalize hL : metasOf m = L at *
        have HLM := Lib.hid hL
        clear hL
        clear hend hi hz3
        go_loopw [4, 66] (fun nx idx wr => ∃ (next : Int) (j : Nat), j ≤ L.length ∧ nx = .int .i64 next ∧ idx = .int .i64 j ∧ ∃ m1 F1 f, BkMt W fb mvb wvb wb next (i + j) j L (.slice x3 L.length y3) wr d m m1 F1 f) (fun _ idx _ => L.length - (RowKit.intOf idx).toNat)
        case atStart => exact ⟨next, 0, by omega, rfl, rfl, m, F, _, ST.out⟩
        case round =>
          obtain ⟨next, j, hj, rfl, rfl, m1, F1, f, hst⟩ := hrel
          clear ST
          have HS := Lib.hid hst
          have hnx := hst.b.nx
          have cm := cell_blk_some hst.b.mc (i := 0) rfl
          clear hst
          by_cases hjl : j < L.length
          · obtain ⟨n, hn⟩ : ∃ n, L[j]? = some n := ⟨_, List.getElem?_eq_getElem hjl⟩
            obtain ⟨gg, cc, he, hlc, _, hgl, hcell⟩ := HS.out.row.cells (by omega)
            injection he with h1 h3 h2
            clear h3
            subst h1 h2
            have k0 := hcell j n hn
            have b2 : (0 : Int) ≤ (j : Int) := by omega
            have b3 : (j : Int) < (L.length : Int) := by omega
            have hm1 : (m1 n).isSome = true := by rw [HS.out.ex]; exact (HMEM.out n).1 (List.mem_of_getElem? hn)
            obtain ⟨⟨b, u⟩, hmb⟩ := Option.isSome_iff_exists.1 hm1
            have hset := Lib.hid (oset_meta HS.out.b.one hmb (a := next) ⟨by omega, by omega⟩)
            have hmv := (set_moveM HS.out.b.one.inv (a := next) hmb (fun _ => HS.out.b.fresh)).1
            have HMV := Lib.hid hmv; have HJ := Lib.hid hn; have HM1 := Lib.hid hmb
            clear hcell hn hm1 hmb hmv
            go_wp2_with fail
            refine hset.out.mono ?_
            rintro e w5 ⟨v5, F5, rfl, _, T5, ha5⟩
            have hs := HS.out
            obtain ⟨o1, o2, o3, o4, o5, o6⟩ := hs.wo
            have hb5 := hs.b.next T5 ha5 HMV.out
            have hwm5 := hs.wm.fr ha5.fr o3
            have hwc5 := (ha5.fr.block _ (blk_lt hs.wc) o1).trans hs.wc
            have hrow5 := hs.b.one.row ha5 hs.row
            have hof5 := ha5.off (blk_lt hs.wc) o1
            have hob5 := ha5.off hs.wm.lt o3
            obtain ⟨w6, hup, hM6, hf6⟩ := hwm5.put klI Tryd.underlying27 next (.int .i64 n)
            have cm5 := cell_blk_some hb5.mc (i := 0) rfl
            have cw5 := cell_blk_some hwc5 (i := 0) rfl
            have hneg := (metasN_neg n (hs.b.one.inv.metas (by rw [HM1.out]; rfl))).1
            have HS6 : Hid (BkMt W fb mvb wvb wb (next + 1) (i + (j + 1)) (j + 1) L (.slice (some ⟨gg, 0, none⟩) L.length y3) w6 d m (updM m1 n (some (next, u))) F5 (putK f next (.int .i64 n))) := Lib.hid (by
              refine ⟨⟨hb5.one.fr hf6 (fun q hq e => hob5 (by rw [← show q = wb from e]; exact hq)) (fun q hq => by rw [show q = wb from hq]; exact o4), (hf6.block _ (blk_lt hb5.mc) o6).trans hb5.mc, hb5.mo, hb5.uq, hb5.lv, by have := hb5.nx; omega⟩, (hf6.block _ (blk_lt hwc5) o5).trans hwc5, hM6, ⟨hof5, o2, hob5, o4, o5, o6⟩, fun k => ?_, fun k hk => ?_, fun a v hv => ?_, hrow5.fr' hf6 fun h g hg e => ?_⟩
              · by_cases e : k = n
                · rw [e, updM_self, ← hs.ex, HM1.out]; rfl
                · rw [updM_other e]; exact hs.ex k
              · rw [take_at HJ.out, List.mem_append, List.mem_singleton] at hk
                rw [adr_updM hneg]
                by_cases e : k = n
                · rw [if_pos e, e]
                  exact ⟨by omega, putK_self⟩
                · rw [if_neg e]
                  obtain ⟨h1, h2⟩ := hs.dn k (hk.resolve_right e)
                  have := hs.b.lv _ ⟨h1, k, rfl⟩
                  exact ⟨h1, by rw [putK_other (by omega)]; exact h2⟩
              · by_cases e : a = next
                · rw [e, putK_self] at hv
                  exact ⟨n, (Option.some.inj hv).symm⟩
                · rw [putK_other e] at hv
                  exact hs.ints a v hv
              · obtain ⟨es, cl, hm, _⟩ := hwm5
                obtain ⟨a2, c2, he2, _, hr2⟩ := hrow5
                obtain ⟨g2, cur, he3, _, hb2, _⟩ := hr2 h
                rw [he2, he3] at hg
                injection hg with hg
                rw [show g2 = wb from hg.trans e, hm] at hb2
                injection hb2 with hb2
                cases hb2)
            clear hs hb5 hwm5 hwc5 hrow5 hof5 hob5 hM6 hf6 T5 ha5 hset HS cm o1 o2 o3 o4 o5 o6
            go_wp2_with fail
            go_roundw
            case rel => exact ⟨next + 1, j + 1, by omega, rfl, by go_num, _, F5, _, HS6.out⟩
            case measure => simp only [RowKit.intOf]; omega
          · obtain rfl : j = L.length := by omega
            have hs := HS.out
            have hlt1 := hs.b.one.f.lt
            have hWz : W.heap.size ≤ wr.heap.size := hs.b.one.bel.size
            have hsp := hs.b.one.sp
            have hin : ∀ k, (m1 k).isSome = true → k ∈ L.take L.length := fun k hk => by rw [List.take_length]; exact (HMEM.out k).2 (by rw [← hs.ex]; exact hk)
            have hbd : ∀ c, 0 ≤ adr d m1 c ∧ adr d m1 c < 4096 := fun c => by
              by_cases h0 : adr d m1 c = 0
              · rw [h0]; omega
              · have := hs.b.lv _ ⟨h0, c, rfl⟩; omega
            have htell : Tells1 d m1 (rdB d m1 f) := ⟨hs.b.one.inv, hbd, fun k hk => (hs.dn k (hin k hk)).1, fun k hk => by unfold rdB; rw [(hs.dn k (hin k hk)).2]; simp [hk]⟩
            have hmt : metasOf m1 = L := by
              rw [← HLM.out]
              unfold metasOf
              exact List.filter_congr fun k _ => hs.ex k
            obtain ⟨w5, hw5⟩ : ∃ w5, w5 = (wr.alloc (.map #[] 0)).alloc (.cells #[.map (some wr.heap.size)] 27) := ⟨_, rfl⟩
            have hb5 : Below wr.heap.size wr w5 := by rw [hw5]; exact ((Below.refl _ wr).alloc (Nat.le_refl _) _).alloc (by simp) _
            have oa5 : w5.heap[wr.heap.size]? = some (.map #[] 0) := by rw [hw5]; exact blk_old (blk_new rfl)
            have ov5 : w5.heap[wr.heap.size + 1]? = some (.cells #[.map (some wr.heap.size)] 27 (0, 0)) := by rw [hw5]; exact blk_new (by simp)
            have hz5 : w5.heap.size = wr.heap.size + 2 := by rw [hw5]; simp
            have HRT := Lib.hid (root_any (hs.b.one.f.below hb5) hs.b.one.inv)
            have cm5 : w5.cell? ⟨mvb, 0, none⟩ = some (.pointer (some ⟨fb, 0, none⟩)) := cell_blk_some ((hb5.block _ (blk_lt hs.b.mc)).trans hs.b.mc) rfl
            rw [hw5] at cm5
            have HTL := Lib.hid htell; have HTL2 := Lib.hid htell; have HBD := Lib.hid hbd; have HLS := Lib.hid (load_same htell hs.b.uq); have HMT := Lib.hid hmt
            have HB5 := Lib.hid hb5; have OA := Lib.hid oa5; have OV := Lib.hid ov5; have HZ5 := Lib.hid hz5; have HLT := Lib.hid hlt1
            clear hs htell hbd hmt hb5 oa5 ov5 hz5 hin hlt1
            go_wp2_with fail
            rw [← hw5]
            clear hw5
            refine HRT.out.mono ?_
            rintro e w6 ⟨rfl, hb6⟩
            rw [rootW_eq HBD.out]
            have hs := HS.out
            have hb56 : Below wr.heap.size wr w6 := HB5.out.trans (hb6.mono HB5.out.size)
            have hz6 : wr.heap.size + 2 ≤ w6.heap.size := by have := hb6.size; have := HZ5.out; omega
            have hJ6 : BackJ fb mvb wvb (wr.heap.size + 1) wb wr.heap.size d m1 F1 f [] w6 :=
              ⟨hs.b.one.f.below hb56, (hb56.block _ (blk_lt hs.b.mc)).trans hs.b.mc, (hb56.block _ (blk_lt hs.wc)).trans hs.wc, (hb6.block _ (by have := HZ5.out; omega)).trans OV.out, hs.wm.fr (S := fun _ => False) (Fr.below hb56) id, by rw [askF_nil]; exact MapIs.new _ _ _ ((hb6.block _ (by have := HZ5.out; omega)).trans OA.out), fun h => by have := HLT.out _ h; omega, by have := hs.wm.lt; omega, by omega⟩
            have hRD := back_reader (Z := w6.heap.size) (fb := fb) (mvb := mvb) (wvb := wvb) (avb := wr.heap.size + 1) (wb := wb) (ab := wr.heap.size) (F := F1) hs.ints hs.b.one.inv HBD.out (by omega) (by omega)
            have hLD := load_any (tr := []) (l := rootL d m1) hRD (hs.b.one.f.below hb56).span ⟨hJ6, fun x hx => by have := HLT.out x hx; omega, by have := blk_lt hs.b.mc; omega, by have := blk_lt hs.wc; omega, by omega, by have := hs.wm.lt; omega, by omega⟩ rfl (fun p hp => by
              unfold rootL at hp
              obtain ⟨c, _, rfl⟩ := List.mem_map.1 hp
              have := HBD.out c; omega)
            have HLD := Lib.hid hLD; have HB56 := Lib.hid hb56
            clear hs hb56 hJ6 hRD hLD hb6 HRT cm cm5
            go_wp2_with fail
            refine HLD.out.mono ?_
            rintro e w7 ⟨hfr7, h7⟩
            rcases h7 with ⟨_, xb, d', m', F', rfl, hF', hI', ha', hj', hFz⟩ | ⟨hbad, _⟩
            focus
              have he : adr d' m' = adr d m1 := ha'.trans HLS.out.2.1
              rw [List.nil_append] at hj'
              have JB := hj'.1
              have hs := HS.out
              have hb7 : Below W.heap.size W w7 := hs.b.one.bel.trans ((HB56.out.mono hWz).trans (hfr7.toBelow (B := W.heap.size) (by have := HB56.out.size; omega) fun x hx => by rw [show x = wr.heap.size from hx]; exact hWz))
              have hrow7 : RowI w7 W.heap.size (.slice x3 L.length y3) L := by
                refine (hs.row.below HB56.out).fr' hfr7 fun h g hg e => ?_
                have := hs.row.lt h g hg
                have : g = wr.heap.size := e
                omega
              have hpm : (rowT (rdB d m1 f) 4 600 (rootL d m1) 9).Perm (L.map (adr d m1)) := by
                refine (List.perm_ext_iff_of_nodup HLS.out.2.2.1 ?_).2 fun y => ?_
                · refine List.pairwise_map.2 (HND.out.imp_of_mem fun {a b} ha hb hne e => hne ?_)
                  exact hs.b.uq a b (hs.dn a (by rw [List.take_length]; exact ha)).1 e
                · rw [HLS.out.2.2.2 y, List.mem_map]
                  exact ⟨fun ⟨k, h1, h2⟩ => ⟨k, (HMEM.out k).2 (by rw [← hs.ex]; exact h1), h2⟩, fun ⟨k, h1, h2⟩ => ⟨k, by rw [hs.ex]; exact (HMEM.out k).1 h1, h2⟩⟩
              have hplen := hpm.length_eq
              rw [List.length_map] at hplen
              have hask := HLS.out.2.2.1
              have hJB := JB
              generalize rowT (rdB d m1 f) 4 600 (rootL d m1) 9 = T at hJB hplen hask
              have hlen := (hJB.am.fr (S := fun _ => False) ((Fr.refl _ w7).drewN 1) id).len klI Tryd.underlying27 hask (askF_some T) 3
              rw [hplen] at hlen
              have HPL := Lib.hid hplen
              have hlen : (Builtin.len_ #[27] 3 #[.map (some wr.heap.size)]).run Tryd.prog w7.drew = .ok (.int .i64 L.length) w7.drew := hlen
              have ca7 := cell_blk_some hJB.ac (i := 0) rfl
              have cm7 := cell_blk_some hJB.mc (i := 0) rfl
              have hr1 := root_any (hF'.below (below_drewN (Below.refl _ w7) 1)) hI'
              rw [same_root he] at hr1
              have HR1 : Hid (Calls Tryd.prog 20 #[.pointer (some ⟨xb, 0, none⟩)] w7.drew fun e w' => e = .returned (.agg (rootW d m1).toArray) ∧ Below w7.drew.heap.size w7.drew w') := Lib.hid hr1
              clear hr1
              have HE := Lib.hid he; have HJB := Lib.hid hJB; have HF' := Lib.hid hF'; have HI' := Lib.hid hI'; have HB7 := Lib.hid hb7; have HROW := Lib.hid hrow7; have HASK := Lib.hid hask; have HFZ := Lib.hid hFz
              clear he hJB hF' hI' hb7 hrow7 hask JB hpm hplen hj' ha' hs hfr7 hFz HLD HLS HTL OA OV
              go_wp2_with fail
              have cRR := Lib.hid (fun w => eqIn_root 0 d m1 w)
              have hmm : metasOf m' = L := by rw [same_metas HTL2.out.inv HI'.out HE.out, HMT.out]
              have HMM := Lib.hid hmm
              have keep8 : Hid (∀ w8, Below w7.heap.size w7 w8 → w8.cell? ⟨wr.heap.size + 1, 0, none⟩ = some (.map (some wr.heap.size)) ∧ w8.cell? ⟨mvb, 0, none⟩ = some (.pointer (some ⟨fb, 0, none⟩)) ∧ (Builtin.len_ #[27] 3 #[.map (some wr.heap.size)]).run Tryd.prog w8 = .ok (.int .i64 L.length) w8) := Lib.hid fun w8 h8 => ⟨cell_blk_some ((h8.block _ (blk_lt HJB.out.ac)).trans HJB.out.ac) rfl, cell_blk_some ((h8.block _ (blk_lt HJB.out.mc)).trans HJB.out.mc) rfl, by
                have h := (HJB.out.am.fr (S := fun _ => False) (Fr.below h8) id).len klI Tryd.underlying27 HASK.out (askF_some T) 3
                rw [HPL.out] at h; exact h⟩
              have hneq : ∀ w, (Op.equalIn 10000 55 (.agg (rootW d m1).toArray) (.agg (rootW d m1).toArray)).run Tryd.prog w = .ok true w := fun w => eqIn_root 9998 d m1 w
              clear hmm cRR
              go_region_held3 (fun w' => w'.cell? ⟨wr.heap.size + 1, 0, none⟩ = some (.map (some wr.heap.size)) ∧ w'.cell? ⟨mvb, 0, none⟩ = some (.pointer (some ⟨fb, 0, none⟩)) ∧ (Builtin.len_ #[27] 3 #[.map (some wr.heap.size)]).run Tryd.prog w' = .ok (.int .i64 L.length) w')
                (first | exact ⟨ca7, cm7, hlen⟩ | exact keep8.out _ HC11.out | exact keep8.out _ HC10.out | exact keep8.out _ HC9.out | exact keep8.out _ HC8.out)
                ((first
                  | (go_at_call 20; (with_reducible refine HR1.out.mono ?_)
                     rintro e w8 ⟨rfl, hb8⟩
                     have HC8 : Hid (Below w7.heap.size w7 w8) := Lib.hid (below_call (below_drewN (Below.refl _ w7) 1) hb8 (Nat.le_refl _))
                     clear hb8)
                  | (go_at_call 20; refine (root_any (HJB.out.at_.below HC8.out) HTL2.out.inv).mono ?_
                     rintro e w9 ⟨rfl, hb9⟩
                     have HC9 : Hid (Below w7.heap.size w7 w9) := Lib.hid (below_call HC8.out hb9 (Nat.le_refl _))
                     clear hb9)
                  | (go_at_call 14; refine (metas_any (HF'.out.below HC9.out)).mono ?_
                     rintro e w10 ⟨v10, rfl, hr10, hb10⟩
                     rw [HMM.out] at hr10
                     have HR10 := Lib.hid hr10
                     have HC10 : Hid (Below w7.heap.size w7 w10) := Lib.hid (below_call HC9.out hb10 (Nat.le_refl _))
                     clear hr10 hb10)
                  | (go_at_call 18; refine (ints_any HR10.out (HROW.out.below HC10.out) (by omega) (by omega)).mono ?_
                     rintro e w11 ⟨rfl, n11, rfl⟩
                     have HC11 : Hid (Below w7.heap.size w7 (w10.drewN n11)) := Lib.hid (below_drewN HC10.out n11))))
              all_goals
                clear HR1 keep8 hneq hlen ca7 cm7 HROW HR10
                generalize (w10.drewN n11) = wz at HC11 ⊢
                have hjz := HJB.out.fr (S := fun _ => False) (Fr.below HC11.out) (fun _ _ => id)
                have cav := cell_blk_some hjz.ac (i := 0) rfl
                obtain ⟨es, clock, hmb, hstm, h1, h2⟩ := hjz.am
                have hval : ∀ e ∈ es.toList, ∃ k : Int, e.key = .int .i64 k ∧ e.val = .int .i64 1 := fun e he => by
                  obtain ⟨k, hk, hv⟩ := h1 e he
                  refine ⟨k, hk, ?_⟩
                  unfold askF at hv
                  by_cases hkT : k ∈ T
                  · rw [if_pos hkT, count_one HASK.out hkT] at hv
                    have := Option.some.inj hv
                    rw [← this]
                    show Value.int .i64 (RowKit.wrap64 1) = _
                    rw [show RowKit.wrap64 1 = 1 by unfold RowKit.wrap64; omega]
                  · rw [if_neg hkT] at hv; cases hv
                have hrange := run_range_map (P := Tryd.prog) wz 27 3 3 wr.heap.size es clock Tryd.underlying27 hmb
                have HV := Lib.hid hval; have HMB := Lib.hid hmb; have HST := Lib.hid hstm; have HJZ := Lib.hid hjz
                clear hval hmb hstm h1 h2 hjz
                go_wp2_with fail
                clear hrange cav
                have hri : (wz.alloc (.mapIter (some wr.heap.size) clock #[] clock)).heap[wz.heap.size]? = some (.mapIter (some wr.heap.size) clock #[] clock) := by
                  show (wz.heap.push _)[wz.heap.size]? = _
                  simp
                have hmI : (wz.alloc (.mapIter (some wr.heap.size) clock #[] clock)).heap[wr.heap.size]? = some (.map es clock) := blk_old HMB.out
                have hbI : Below wz.heap.size wz (wz.alloc (.mapIter (some wr.heap.size) clock #[] clock)) := (Below.refl _ wz).alloc (Nat.le_refl _) _
                have hrp : wr.heap.size ≠ wz.heap.size := by have := blk_lt HMB.out; omega
                have hzz : w7.heap.size ≤ wz.heap.size := HC11.out.size
                have RI := Lib.hid hri; have MI := Lib.hid hmI; have BI := Lib.hid hbI
                clear hri hmI hbI
                generalize wz.alloc (.mapIter (some wr.heap.size) clock #[] clock) = wi at RI MI BI ⊢
                generalize hrz : wz.heap.size = ri at *
                generalize hab : wr.heap.size = ab at *
                go_loopw [] (fun wy => ∃ seen, wy.heap[ri]? = some (.mapIter (some ab) clock seen clock) ∧ Fr (fun x => x = ri) wi wy) (fun wy => (leftOf es (wy.iterSeen ri)).size)
                case atStart => exact ⟨_, RI.out, Fr.refl _ _⟩
                case round =>
                  obtain ⟨seen, hri2, hfi⟩ := hrel
                  have hmb2 : wr.heap[ab]? = some (.map es clock) := (hfi.block ab (blk_lt MI.out) hrp).trans MI.out
                  have hseen : wr.iterSeen ri = seen := by unfold World.iterSeen; rw [hri2]
                  have law := run_next_at (P := Tryd.prog) wr 0 ri ab clock clock seen es clock hri2 hmb2 HST.out.1 (Nat.le_refl _)
                  have FI := Lib.hid hfi; have SEEN := Lib.hid hseen
                  clear hfi hseen RI
                  rcases law with ⟨-, hrun⟩ | ⟨e, he, wq, hq, hrun⟩
                  · clear hri2 hmb2
                    have hzi : ri ≤ wi.heap.size := Nat.le_trans (Nat.le_of_eq hrz.symm) BI.out.size
                    have hwr : Below wz.heap.size wz wr := by
                      rw [hrz]
                      exact ⟨FI.out.os.trans BI.out.os, FI.out.tape.trans BI.out.tape, FI.out.output.trans BI.out.output, Nat.le_trans BI.out.size FI.out.size, fun x hx => (FI.out.block x (by omega) (by show ¬ x = ri; omega)).trans (BI.out.block x hx)⟩
                    have hjy := HJZ.out.fr (S := fun _ => False) (Fr.below hwr) (fun _ _ => id)
                    have hC := below_call HC11.out hwr (Nat.le_refl _)
                    have cmy := cell_blk_some hjy.mc (i := 0) rfl
                    have HJY := Lib.hid hjy; have HC := Lib.hid hC
                    clear hzi hwr hjy hC FI SEEN BI MI HST HV HMB HJZ HC11
                    go_wp2_with fail
                    all_goals
                      go_at_call 15
                      refine (places_any HJY.out.at_ HTL2.out.inv).mono ?_
                      rintro e w12 ⟨v12, rfl, hr12, hb12⟩
                      have HR12 := Lib.hid hr12
                      have HC12 : Hid (Below w7.heap.size w7 w12) := Lib.hid (below_call HC.out hb12 (Nat.le_refl _))
                      clear hr12 hb12
                      go_wp2_with fail
                      refine (places_any (HF'.out.below HC12.out) HI'.out).mono ?_
                      rintro e w13 ⟨v13, rfl, hr13, hb13⟩
                      rw [same_places HTL2.out.inv HI'.out HE.out] at hr13
                      have hr14 := HR12.out.below hb13
                      have HC13 : Hid (Below w7.heap.size w7 w13) := Lib.hid (below_call HC12.out hb13 (Nat.le_refl _))
                      obtain ⟨a12, c12, rfl⟩ := hr14.shape
                      obtain ⟨a13, c13, rfl⟩ := hr13.shape
                      have HR13 := Lib.hid hr13
                      have HR14 := Lib.hid hr14
                      clear hr13 hr14 hb13 HR12
                      have hpl7 : (placesOf d m1).length ≤ 700 := places_len
                      generalize placesOf d m1 = PL at HR13 HR14 hpl7 ⊢
                      go_wp2_with fail
                      go_loopw [134] (fun idx wy => ∃ t : Nat, t ≤ PL.length ∧ idx = .int .i64 t ∧ ∃ n, wy = w13.drewN n) (fun idx _ => PL.length - (RowKit.intOf idx).toNat)
                      case atStart => exact ⟨0, by omega, rfl, 0, rfl⟩
                      case round =>
                        obtain ⟨t, ht, rfl, hdr⟩ := hrel
                        have HD := Lib.hid hdr
                        clear hdr
                        by_cases htl : t < PL.length
                        · obtain ⟨⟨p1, p2⟩, hpt⟩ : ∃ p, PL[t]? = some p := ⟨_, List.getElem?_eq_getElem htl⟩
                          obtain ⟨g1, d1, e1, _, _, _, k1⟩ := HR13.out.cells (by omega)
                          obtain ⟨g2, d2, e2, _, _, _, k2⟩ := HR14.out.cells (by omega)
                          injection e1 with e1 _ e1'
                          injection e2 with e2 _ e2'
                          subst e1 e1' e2 e2'
                          have x1 : wr.cell? ⟨g1, t * 2, none⟩ = some (.int .i64 p1) := by obtain ⟨n, hn⟩ := HD.out; rw [hn]; exact (k1 t _ hpt).1
                          have x2 : wr.cell? ⟨g1, t * 2 + 1, none⟩ = some (.int .i64 p2) := by obtain ⟨n, hn⟩ := HD.out; rw [hn]; exact (k1 t _ hpt).2
                          have y1 : wr.cell? ⟨g2, t * 2, none⟩ = some (.int .i64 p1) := by obtain ⟨n, hn⟩ := HD.out; rw [hn]; exact (k2 t _ hpt).1
                          have y2 : wr.cell? ⟨g2, t * 2 + 1, none⟩ = some (.int .i64 p2) := by obtain ⟨n, hn⟩ := HD.out; rw [hn]; exact (k2 t _ hpt).2
                          have b0 : (0 : Int) ≤ (t : Int) := by omega
                          have b1 : (t : Int) < (PL.length : Int) := by omega
                          have hdq : ∀ q, ∃ k, wr.drewN q = w13.drewN k := fun q => by obtain ⟨k, hk⟩ := HD.out; rw [hk]; exact ⟨_, by rw [World.drewN_drewN]⟩
                          have HDQ := Lib.hid hdq
                          clear k1 k2 hdq hpt
                          go_wp2_with fail
                          go_quiet (fail)
                          go_wp2_with fail
                          go_roundw
                          case rel => exact ⟨t + 1, by omega, by go_num, HDQ.out _⟩
                          case measure => simp only [RowKit.intOf]; omega
                        · obtain rfl : t = PL.length := by omega
                          go_wp2_with fail
                          go_ret
                          obtain ⟨n, hn⟩ := HD.out
                          exact ⟨by simp, by rw [hn]; exact below_drewN (below_call HB7.out HC13.out (Nat.le_refl _)) n⟩
                  · obtain ⟨hem, hes⟩ := mem_left he
                    obtain ⟨x1, hek, hev⟩ := HV.out e hem
                    have hrl : ri < wr.heap.size := (Array.getElem?_eq_some_iff.1 hri2).1
                    obtain ⟨wN, hwN⟩ : ∃ wN, wN = ChangeMaps.setBlock wq ri (.mapIter (some ab) clock (seen.push e.born) clock) := ⟨_, rfl⟩
                    have hfN : Fr (fun x => x = ri) wr wN := by
                      rw [hwN]
                      rcases hq with rfl | rfl
                      · exact Fr.setB _ _ _
                      · exact (Fr.refl (fun x => x = ri) wr).drew.trans (Fr.setB wr.drew _ _)
                    have hriN : wN.heap[ri]? = some (.mapIter (some ab) clock (seen.push e.born) clock) := by
                      rw [hwN]
                      rcases hq with rfl | rfl
                      · exact setB_at hrl
                      · exact setB_at (w := wr.drew) hrl
                    have hmbN : wN.heap[ab]? = some (.map es clock) := (hfN.block ab (blk_lt hmb2) hrp).trans hmb2
                    have hent := run_entry_at (P := Tryd.prog) wN ri ab clock seen es clock e hriN hmbN hem HST.out.2.1
                    rw [← hwN] at hrun
                    rw [hek, hev] at hrun hent
                    have hshr := left_shrinks es seen e he
                    have hsn : wN.iterSeen ri = seen.push e.born := by unfold World.iterSeen; rw [hriN]
                    have RX := Lib.hid hriN; have SN := Lib.hid hsn; have FX := Lib.hid (FI.out.trans hfN); have SHR := Lib.hid hshr
                    clear hri2 hmb2 hem hes hek hev he hwN hfN hriN hmbN hshr hsn hq hrl
                    go_wp2_with fail
                    go_roundw
                    case rel => exact ⟨_, RX.out, FX.out⟩
                    case measure => rw [SN.out, SEEN.out]; exact SHR.out
            · rw [HLS.out.1] at hbad; cases hbad
end Go.Proofs.YtklamgijikcnaaaDoor
