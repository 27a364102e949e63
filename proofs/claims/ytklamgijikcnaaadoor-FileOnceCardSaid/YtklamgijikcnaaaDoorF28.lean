/- Walk of the statement FileOnce: it returns true. -/
import Derived.Test.YtklamgijikcnaaaDoorF27
import Derived.Test.YtklamgijikcnaaaDoorFOps
namespace Go.Proofs.YtklamgijikcnaaaDoor
open Go.RowKit

def OnSt (W : World) (fb tb : Nat) (next : Int) (i : Nat) (wr : World) : Prop :=
  (∃ d m F, One W wr fb d m F ∧ UniqA (adr d m) ∧ MapIs (Value.int .i64) wr tb (oneF (liveA (adr d m))) ∧ ¬ F tb ∧ ∀ y, liveA (adr d m) y → y < next) ∧ W.heap.size ≤ tb ∧ 0 < next ∧ next ≤ (i : Int) + 1 ∧ i ≤ 60
/-- Behind the call: gv are those that are gone, P those that were told ahead. -/
def OnMid (W : World) (fb tb : Nat) (next : Int) (i : Nat) (gv : Value) (wr : World) : Prop :=
  (∃ d m F L P, One W wr fb d m F ∧ UniqA (adr d m) ∧ MapIs (Value.int .i64) wr tb (oneF P) ∧ ¬ F tb ∧ (∀ y, P y → y < next) ∧ RowI wr W.heap.size gv L ∧ L.Pairwise (· < ·) ∧ (∀ y ∈ L, P y) ∧ (∀ y, liveA (adr d m) y ↔ P y ∧ y ∉ L) ∧ L.length ≤ 1000) ∧ W.heap.size ≤ tb ∧ 0 < next ∧ next ≤ (i : Int) + 2 ∧ i < 60
theorem mid_of {W w4 w5 : World} {fb tb i : Nat} {next n a : Int} {d d' : Int → Int} {m m' : MM} {F F' : Nat → Prop} {v5 : Value} {L : List Int} (T5 : One W w5 fb d' m' F') (ha : Aft w4 w5 F F') (hmv : MoveA (adr d m) (adr d' m') n a) (hg : GoneOf (adr d m) (adr d' m') L) (hu : UniqA (adr d m))
    (hM : MapIs (Value.int .i64) w4 tb (oneF fun y => liveA (adr d m) y ∨ a ≠ 0 ∧ y = a)) (hFt : ¬ F tb) (hlt : ∀ y, liveA (adr d m) y ∨ a ≠ 0 ∧ y = a → y < next) (ho : RowI w5 W.heap.size v5 L) (hL : L.length ≤ 1000) (h1 : W.heap.size ≤ tb) (h2 : 0 < next) (h3 : next ≤ (i : Int) + 2) (h4 : i < 60) : OnMid W fb tb next i v5 w5 :=
  ⟨⟨d', m', F', L, _, T5, hmv.uniq hu, hM.fr ha.fr hFt, ha.off hM.lt hFt, hlt, ho, hg.1, fun _ hy => .inl (hg.was hy), hmv.there hu hg, hL⟩, h1, h2, h3, h4⟩
/-- While those that are gone are struck. -/
structure OnDel (W : World) (fb tb : Nat) (gv : Value) (d : Int → Int) (m : MM) (F : Nat → Prop) (L : List Int) (P : Int → Prop) (j : Nat) (wr : World) : Prop where
  one : One W wr fb d m F
  mp : MapIs (Value.int .i64) wr tb (oneF fun y => P y ∧ y ∉ L.take j)
  row : RowI wr W.heap.size gv L
theorem pw_at {L : List Int} {i j : Nat} {a b : Int} (h : L.Pairwise (· < ·)) (hi : L[i]? = some a) (hj : L[j]? = some b) (hij : i < j := by omega) : a < b := by
  obtain ⟨h1, e1⟩ := List.getElem?_eq_some_iff.1 hi
  obtain ⟨h2, e2⟩ := List.getElem?_eq_some_iff.1 hj
  rw [← e1, ← e2]
  exact List.pairwise_iff_getElem.1 h i j h1 h2 hij
theorem not_take {L : List Int} {j : Nat} {a : Int} (h : L.Pairwise (· < ·)) (hj : L[j]? = some a) : a ∉ L.take j := fun hm => by
  obtain ⟨i, hi⟩ := List.mem_iff_getElem?.1 hm
  rw [List.getElem?_take] at hi
  split at hi
  · have := pw_at h hi hj
    omega
  · cases hi
theorem OnDel.step {W wr : World} {fb tb : Nat} {gv : Value} {d : Int → Int} {m : MM} {F : Nat → Prop} {L : List Int} {P : Int → Prop} {j : Nat} {a : Int} (h : OnDel W fb tb gv d m F L P j wr) (hFt : ¬ F tb) (htl : W.heap.size ≤ tb) (hLP : ∀ y ∈ L, P y) (hpw : L.Pairwise (· < ·)) (ha : L[j]? = some a) :
    (Instr.lookup 27 (.map (some tb)) (.int .i64 a) false).run Tryd.prog wr = .ok (.int .i64 1) wr ∧ ∃ wd, (∀ ty, (Builtin.delete_ #[27, 3] ty #[.map (some tb), .int .i64 a]).run Tryd.prog wr = .ok (.tuple #[]) wd) ∧ OnDel W fb tb gv d m F L P (j + 1) wd := by
  have lk := h.mp.look1 klI Tryd.underlying27 zero_int a
  rw [oneF_at ⟨hLP a (List.mem_of_getElem? ha), not_take hpw ha⟩] at lk
  obtain ⟨wd, hdel, hMd, hfd⟩ := h.mp.del klI Tryd.underlying27 a
  rw [oneF_del] at hMd
  have hl := (List.getElem?_eq_some_iff.1 ha).1
  refine ⟨lk, wd, hdel, h.one.fr hfd (fun q hq e => hFt (by rw [← show q = tb from e]; exact hq)) (fun q hq => by rw [show q = tb from hq]; exact htl), ?_, h.row.fr' hfd fun _ g hg e => ?_⟩
  · rw [take_at ha, oneF_congr (Q := fun z => (P z ∧ z ∉ L.take j) ∧ z ≠ a) (fun y => by rw [List.mem_append, List.mem_singleton, not_or, and_assoc])]
    exact hMd
  · obtain ⟨es, c, hm, _⟩ := h.mp
    obtain ⟨g2, c2, rfl, _, _, _, hc⟩ := h.row.cells (by omega)
    have hx := hc 0 L[0] (List.getElem?_eq_getElem (by omega))
    have hg2 : g2 = tb := by
      have : g2 = g := Option.some.inj hg
      rw [this]; exact e
    rw [hg2] at hx
    exact absurd hx (by unfold World.cell?; simp [hm])
/-- While the places are asked. -/
structure OnPl (W : World) (fb tb : Nat) (pv : Value) (d : Int → Int) (m : MM) (F : Nat → Prop) (Q : List (Int × Int)) (wr : World) : Prop where
  one : One W wr fb d m F
  mp : MapIs (Value.int .i64) wr tb (oneF (liveA (adr d m)))
  row : OwnP wr W.heap.size pv Q
theorem OnPl.below {W wr w' : World} {fb tb : Nat} {pv : Value} {d : Int → Int} {m : MM} {F : Nat → Prop} {Q : List (Int × Int)} (h : OnPl W fb tb pv d m F Q wr) (hb : Below wr.heap.size wr w') : OnPl W fb tb pv d m F Q w' :=
  ⟨h.one.below hb, h.mp.fr (S := fun _ => False) (Fr.below hb) id, h.row.below hb⟩
/-- Set of data, or of a block of pointers that is there. -/
theorem oset_both {W w : World} {fb : Nat} {d : Int → Int} {m : MM} {F : Nat → Prop} {n a : Int} (T : One W w fb d m F) (hu : UniqA (adr d m)) (hn : (0 ≤ n ∧ n < 600) ∨ (m n).isSome = true) (ha : 0 ≤ a ∧ a < 4096) (hl : a ≠ 0 → ¬ liveA (adr d m) a) :
    ∃ d' m' L, Calls Tryd.prog 11 #[.pointer (some ⟨fb, 0, none⟩), .int .i64 n, .int .i64 a] w (OSet W w fb F d' m' L) ∧ MoveA (adr d m) (adr d' m') n a ∧ GoneOf (adr d m) (adr d' m') L ∧ L.length ≤ 1000 := by
  rcases hn with hn | hn
  · refine ⟨_, _, _, oset_data T hn ha, set_moveD T.inv hn hl, ?_⟩
    rw [(setS_ok T.inv hn).2.2]
    refine ⟨gone_of T.inv hu _, ?_⟩
    rw [sortI_length]
    have := goneL_length (adr d m) (adr (setS d m n a).1 (setS d m n a).2.1)
    omega
  · obtain ⟨⟨b, u⟩, hm⟩ := Option.isSome_iff_exists.1 hn
    obtain ⟨h1, h2⟩ := set_moveM T.inv (a := a) hm hl
    refine ⟨_, _, _, oset_meta T hm ha, h1, h2, ?_⟩
    unfold metaGone toldL
    split
    · exact Nat.zero_le _
    · split <;> simp

set_option maxHeartbeats 8000000 in
set_option maxRecDepth 100000 in
theorem lawOnce_any (v : Value) (ops : List Op4) (W : World) (S : SpanAt W) (hv : OpsAt W.heap.size W v ops) :
    Calls Tryd.prog 4 #[v] W fun e w' => e = .returned (.bool true) ∧ Below W.heap.size W w' := by
  obtain ⟨av, cv, rfl, hxs⟩ := hv
  have HX := Lib.hid hxs
  have HN := Lib.hid (onew_any S)
  clear hxs S
  have mm := fun w => run_makeMap (P := Tryd.prog) 27 w
  go_enter Tryd.func4, Tryd.ntmps4
  go_wp2_with fail
  refine HN.out.mono ?_
  rintro e w1 ⟨rfl, F1, T1⟩
  have HA := Lib.hid (awake_any T1.f.span)
  have T1' := Lib.hid T1
  clear T1
  go_wp2_with fail
  refine HA.out.mono ?_
  rintro e w2 ⟨rfl, hb2⟩
  have T2 := T1'.out.below hb2
  have hst : OnSt W (W.heap.size + 2) w2.heap.size 1 0 (w2.alloc (.map #[] 0)) := ⟨⟨_, _, _, T2.alloc _, by rw [adr_zero]; exact UniqA.zero, by rw [adr_zero, liveA_zero, oneF_zero]; exact MapIs.new _ _ _ (blk_new rfl), fun h => by have := T2.f.lt _ h; omega, fun y hy => by rw [adr_zero] at hy; exact absurd hy.2.choose_spec.symm hy.1⟩, T2.bel.size, by omega, by omega, by omega⟩
  have K0 := Lib.hid hst
  clear hst T2 hb2 HA T1' HN
  go_wp2_with fail
  generalize w2.alloc (.map #[] 0) = w3 at K0 ⊢
  generalize w2.heap.size = tb at K0 ⊢
  generalize W.heap.size + 2 = fb at K0 ⊢
  go_loopw [4, 6] (fun nx idx wr => ∃ (next : Int) (i : Nat), i ≤ ops.length ∧ nx = .int .i64 next ∧ idx = .int .i64 i ∧ OnSt W fb tb next i wr) (fun _ idx _ => ops.length - (RowKit.intOf idx).toNat)
  case atStart => exact ⟨1, 0, by omega, rfl, rfl, K0.out⟩
  case round =>
    obtain ⟨next, i, hi, rfl, rfl, hst⟩ := hrel
    clear K0
    obtain ⟨⟨d, m, F, T, hu, hM, hFt, hlt⟩, htl, hn0, hni, hi60⟩ := hst
    have T' := Lib.hid T; have HU := Lib.hid hu; have HM := Lib.hid hM; have HLT := Lib.hid hlt
    clear T hu hM hlt
    by_cases hgo : i < ops.length ∧ i < 60
    · obtain ⟨hg1, hg2⟩ := hgo
      obtain ⟨x, hx⟩ : ∃ x, ops[i]? = some x := ⟨_, List.getElem?_eq_getElem hg1⟩
      obtain ⟨g, o, rfl, hg, hcell⟩ := HX.out (by omega)
      obtain ⟨c0, c1, c2, c3⟩ := (hcell i x hx).below hg T'.out.bel
      have b0 : (0 : Int) ≤ (i : Int) := by omega
      have b1 : (i : Int) < (ops.length : Int) := by omega
      clear hcell hx
      obtain ⟨w4, hw4⟩ : ∃ w4, w4 = wr.alloc (.cells #[.int .i64 x.kind, .int .i64 x.n, .int .i64 x.addr, .int .i64 x.k] 42) := ⟨_, rfl⟩
      have hb4 : Below wr.heap.size wr w4 := by rw [hw4]; exact (Below.refl _ wr).alloc (Nat.le_refl _) _
      have ob : w4.heap[wr.heap.size]? = some (.cells #[.int .i64 x.kind, .int .i64 x.n, .int .i64 x.addr, .int .i64 x.k] 42 (0, 0)) := by rw [hw4]; exact blk_new rfl
      have T4 := Lib.hid (T'.out.below hb4)
      have M4 := Lib.hid (HM.out.fr (S := fun _ => False) (Fr.below hb4) id)
      have hFo : ¬ F wr.heap.size := fun h => by have := T'.out.f.lt _ h; omega
      have HOB := Lib.hid ob
      clear hb4 HM ob
      go_upto_if 42 with fail
      rw [← hw4]
      clear hw4 c0 c1 c2 c3
      generalize wr.heap.size = obk at HOB hFo ⊢
      clear T'
      have k0 := cell_blk_some HOB.out (i := 0) rfl
      have k1 := cell_blk_some HOB.out (i := 1) rfl
      have k2 := cell_blk_some HOB.out (i := 2) rfl
      have k3 := cell_blk_some HOB.out (i := 3) rfl
      go_cut [4, 8, 9] (fun nx gv e wx => ∃ next', nx = .int .i64 next' ∧ e = .int .i64 0 ∧ OnMid W fb tb next' i gv wx)
      case first =>
        by_cases hk2 : x.kind = 2
        · have q1 : (x.kind == 2) = true := by simp [hk2]
          obtain ⟨k, hk, hkw⟩ := rest_of x.n 601 (by decide) (by decide)
          have HK := Lib.hid hkw
          rw [show ((601 : Nat) : Int) = 601 from rfl] at HK
          have hC := Lib.hid (ocut_any T4.out (from_ := (k : Int)) ⟨by omega, by omega⟩)
          clear hkw
          go_wp2_with fail
          rw [HK.out]
          refine hC.out.mono ?_
          rintro e w5 ⟨v5, F5, d5, m5, rfl, hd5, hsub, hless, ho5, T5, ha5⟩
          have hmid : OnMid W fb tb next i v5 w5 := mid_of T5 ha5 (cut_moveD hless) (gone_of T4.out.inv HU.out _) HU.out (by rw [oneF_congr (Q := liveA (adr d m)) (fun y => by simp)]; exact M4.out) hFt (fun y hy => HLT.out y (hy.resolve_right fun h => h.1 rfl)) (ho5.row.mono T4.out.bel.size) (by rw [sortI_length]; have := goneL_length (adr d m) (adr d5 m5); omega) htl hn0 (by omega) (by omega)
          have HMID := Lib.hid hmid
          clear hmid hd5 hsub hless ho5 T5 ha5 hC
          go_wp2_with fail
          go_meet
          case rel => exact ⟨next, rfl, rfl, HMID.out⟩
        · have q1 : (x.kind == 2) = false := by simp [hk2]
          obtain ⟨n, hn, hnw⟩ := rest_of x.n 600 (by decide) (by decide)
          have HNW := Lib.hid hnw
          rw [show ((600 : Nat) : Int) = 600 from rfl] at HNW
          have hMT := Lib.hid (metas_any T4.out.f)
          clear hnw hk2
          go_wp2_with fail
          rw [HNW.out]
          refine hMT.out.mono ?_
          rintro e w5 ⟨v5, rfl, hr5, hb5⟩
          have T5 := Lib.hid (T4.out.below hb5)
          have M5 := Lib.hid (M4.out.fr (S := fun _ => False) (Fr.below hb5) id)
          have ob5 := (hb5.block _ (blk_lt HOB.out)).trans HOB.out
          clear k0 k1 k2 k3
          have k0 : w5.cell? ⟨obk, 0, none⟩ = some (.int .i64 x.kind) := cell_blk_some ob5 rfl
          have k2 : w5.cell? ⟨obk, 2, none⟩ = some (.int .i64 x.addr) := cell_blk_some ob5 rfl
          have k3 : w5.cell? ⟨obk, 3, none⟩ = some (.int .i64 x.k) := cell_blk_some ob5 rfl
          have hml : (metasOf m).length ≤ 42 := by
            have h1 : metasN.length = 42 := by decide +kernel
            have h2 : (metasOf m).length ≤ metasN.length := by unfold metasOf; exact List.length_filter_le _ _
            omega
          have hcase : x.kind ≠ 3 ∨ (x.kind = 3 ∧ (metasOf m).length = 0) ∨ (x.kind = 3 ∧ 0 < (metasOf m).length) := by omega
          rcases hcase with h3 | ⟨h3, h4⟩ | ⟨h3, h4⟩
          focus
            have q3 : (x.kind == 3) = false := by simp [h3]
            obtain ⟨xa, xc, rfl⟩ := hr5.shape
            have hnv : (0 ≤ (n : Int) ∧ (n : Int) < 600) ∨ (m (n : Int)).isSome = true := .inl ⟨by omega, by omega⟩
            generalize (n : Int) = nn at hnv HNW ⊢
            clear hr5 hb5 hMT T4 M4 ob5 HOB h3
            go_upto_region 18 with fail
          rotate_left
          focus
            have q3 : (x.kind == 3) = true := by simp [h3]
            obtain ⟨xa, xc, rfl⟩ := hr5.shape
            have hnv : (0 ≤ (n : Int) ∧ (n : Int) < 600) ∨ (m (n : Int)).isSome = true := .inl ⟨by omega, by omega⟩
            generalize (n : Int) = nn at hnv HNW ⊢
            rw [h4]
            clear hr5 hb5 hMT T4 M4 ob5 HOB h3
            go_upto_region 18 with fail
          rotate_left
          focus
            have q3 : (x.kind == 3) = true := by simp [h3]
            obtain ⟨g5, c5, rfl, hc5, _, hg5, hcell5⟩ := hr5.cells h4
            obtain ⟨q, hq, hqw⟩ := rest_of x.k (metasOf m).length h4 (by omega)
            obtain ⟨nn, hnn⟩ : ∃ nn, (metasOf m)[q]? = some nn := ⟨_, List.getElem?_eq_getElem hq⟩
            have cq := hcell5 q nn hnn
            have hnv : (0 ≤ nn ∧ nn < 600) ∨ (m nn).isSome = true := by
              have := List.mem_of_getElem? hnn
              unfold metasOf at this
              exact .inr (List.mem_filter.1 this).2
            have b2 : (0 : Int) < ((metasOf m).length : Int) := by omega
            have b3 : ((metasOf m).length : Int) ≤ 42 := by omega
            have b4 : (q : Int) < ((metasOf m).length : Int) := by omega
            have b5 : (0 : Int) ≤ (q : Int) := by omega
            have b6 : ¬ ((metasOf m).length : Int) = 0 := by omega
            clear hr5 hb5 hMT T4 M4 ob5 HOB h3 hcell5 hnn h4 hq
            go_upto_region 18 with fail
          all_goals
            by_cases h4 : x.addr.tmod 4 = 0
            · have q4 : (x.addr.tmod 4 == 0) = true := beq_iff_eq.2 h4
              obtain ⟨d6, m6, L6, hC, hmv, hg6, hL6⟩ := oset_both T5.out HU.out hnv (a := 0) ⟨by omega, by omega⟩ (fun h => absurd rfl h)
              have HC := Lib.hid hC; have HMV := Lib.hid hmv; have HG := Lib.hid hg6
              clear h4 hC hmv hg6
              go_wp2_with fail
              refine HC.out.mono ?_
              rintro e w6 ⟨v6, F6, rfl, ho6, T6, ha6⟩
              have HMID := Lib.hid (show OnMid W fb tb next i v6 w6 from mid_of T6 ha6 HMV.out HG.out HU.out (by rw [oneF_congr (Q := liveA (adr d m)) (fun y => by simp)]; exact M5.out) hFt (fun y hy => HLT.out y (hy.resolve_right fun h => h.1 rfl)) (ho6.row.mono T5.out.bel.size) hL6 htl hn0 (by omega) (by omega))
              clear ho6 T6 ha6 HC HMV HG
              go_wp2_with fail
              go_meet
              case rel => exact ⟨next, rfl, rfl, HMID.out⟩
            · have q4 : (x.addr.tmod 4 == 0) = false := beq_eq_false_iff_ne.2 h4
              have hnl : ¬ liveA (adr d m) next := fun h => by have := HLT.out _ h; omega
              have lk := M5.out.look1 klI Tryd.underlying27 zero_int next
              rw [oneF_no hnl] at lk
              obtain ⟨w6, hup, hM6, hf6⟩ := M5.out.put klI Tryd.underlying27 next (.int .i64 1)
              rw [oneF_put] at hM6
              have T6 := Lib.hid (T5.out.fr hf6 (fun q hq e => hFt (by rw [← show q = tb from e]; exact hq)) (fun q hq => by rw [show q = tb from hq]; exact htl))
              obtain ⟨d6, m6, L6, hC, hmv, hg6, hL6⟩ := oset_both T6.out HU.out hnv (a := next) ⟨by omega, by omega⟩ (fun _ => hnl)
              have HC := Lib.hid hC; have HMV := Lib.hid hmv; have HG := Lib.hid hg6; have M6 := Lib.hid hM6
              clear h4 hC hmv hg6 hM6 hf6 hnl
              go_wp2_with fail
              refine HC.out.mono ?_
              rintro e w7 ⟨v7, F7, rfl, ho7, T7, ha7⟩
              have HMID := Lib.hid (show OnMid W fb tb (next + 1) i v7 w7 from mid_of T7 ha7 HMV.out HG.out HU.out (by rw [oneF_congr (Q := fun z => liveA (adr d m) z ∨ z = next) (fun y => by simp [show next ≠ 0 by omega])]; exact M6.out) hFt (fun y hy => by rcases hy with h | h; (have := HLT.out y h; omega); omega) (ho7.row.mono T6.out.bel.size) hL6 htl (by omega) (by omega) (by omega))
              clear ho7 T7 ha7 HC HMV HG
              go_wp2_with fail
              go_meet
              case rel => exact ⟨next + 1, rfl, rfl, HMID.out⟩
      case rest =>
        obtain ⟨next', rfl, rfl, hmid⟩ := hcut
        clear T4 M4 HOB k0 k1 k2 k3 HU HLT hFt hn0 hni hi60 hFo htl
        obtain ⟨⟨d', m', F', L, P, T7, hU7, hM7, hFt7, hP7, hR7, hpw, hLP, hlv, hL⟩, htl7, hn7, hn8, hi7⟩ := hmid
        obtain ⟨xg, yg, rfl⟩ := hR7.shape
        have ST : Hid (OnDel W fb tb (.slice xg L.length yg) d' m' F' L P 0 wc) := Lib.hid ⟨T7, by rw [List.take_zero, oneF_congr (Q := P) (fun y => by simp)]; exact hM7, hR7⟩
        have HU := Lib.hid hU7; have HP := Lib.hid hP7; have HPW := Lib.hid hpw; have HLP := Lib.hid hLP; have HLV := Lib.hid hlv
        clear T7 hU7 hM7 hP7 hR7 hpw hLP hlv
        go_wp2_with fail
        go_loopw [101] (fun idx wr => ∃ j : Nat, j ≤ L.length ∧ idx = .int .i64 j ∧ OnDel W fb tb (.slice xg L.length yg) d' m' F' L P j wr) (fun idx _ => L.length - (RowKit.intOf idx).toNat)
        case atStart => exact ⟨0, by omega, rfl, ST.out⟩
        case round =>
          obtain ⟨j, hj, rfl, hst⟩ := hrel
          clear ST
          have HS := Lib.hid hst
          clear hst
          by_cases hjl : j < L.length
          · obtain ⟨a, ha⟩ : ∃ a, L[j]? = some a := ⟨_, List.getElem?_eq_getElem hjl⟩
            obtain ⟨gg, cc, he, hlc, _, hgl, hcell⟩ := HS.out.row.cells (by omega)
            injection he with h1 _ h2
            subst h1 h2
            have c1 := hcell j a ha
            have HD' := HS.out.step hFt7 htl7 HLP.out HPW.out ha
            obtain ⟨lk, wd, hdel, hOD⟩ := HD'
            have HD := Lib.hid hOD
            rcases Nat.eq_zero_or_pos j with hj0 | hj0
            · have b2 : ¬ 0 < j := by omega
              have b3 : (0 : Int) ≤ (j : Int) := by omega
              have b4 : (j : Int) < (L.length : Int) := by omega
              have b5 : decide ((0 : Int) < (j : Int)) = false := by simpa using hj0
              clear hcell ha hOD hj0
              go_wp2_with fail
              go_roundw
              case rel => exact ⟨j + 1, by omega, by go_num, HD.out⟩
              case measure => simp only [RowKit.intOf]; omega
            · obtain ⟨jp, rfl⟩ : ∃ jp, j = jp + 1 := ⟨j - 1, by omega⟩
              obtain ⟨ap, hap⟩ : ∃ ap, L[jp]? = some ap := ⟨_, List.getElem?_eq_getElem (by omega)⟩
              have c2 := hcell jp ap hap
              have hlt : ap < a := pw_at HPW.out hap ha
              have hlt2 : decide (a ≤ ap) = false := by simp; omega
              have b2 : (0 : Int) ≤ (jp : Int) := by omega
              have b3 : (jp : Int) < (L.length : Int) := by omega
              have b4 : (jp : Int) + 1 < (L.length : Int) := by omega
              have b5 : (jp : Int) + 1 ≤ 100000 := by omega
              clear hcell ha hOD hap
              go_wp2_with fail
              go_roundw
              case rel => exact ⟨jp + 1 + 1, by omega, by go_num, HD.out⟩
              case measure => simp only [RowKit.intOf]; omega
          · obtain rfl : j = L.length := by omega
            have hS := HS.out
            have hM := hS.mp
            rw [List.take_length, oneF_congr (Q := liveA (adr d' m')) (fun y => (HLV.out y).symm)] at hM
            have T8 := Lib.hid hS.one; have M8 := Lib.hid hM
            have hPL := Lib.hid (places_any hS.one.f hS.one.inv)
            obtain ⟨hnd, hmem⟩ := places_adr hS.one.inv HU.out
            have HND := Lib.hid hnd; have HME := Lib.hid hmem
            have HMP := Lib.hid (fun k a => mem_places hS.one.inv (k := k) (a := a))
            have hLw : (placesOf d' m').length ≤ 700 := places_len
            clear hS hM hnd hmem HS
            go_wp2_with fail
            refine hPL.out.mono ?_
            rintro e w9 ⟨pv, rfl, hp9, hb9⟩
            have T9 := Lib.hid (T8.out.below hb9); have M9 := Lib.hid (M8.out.fr (S := fun _ => False) (Fr.below hb9) id)
            have hlen := M9.out.len klI Tryd.underlying27 (l := (placesOf d' m').map (·.2)) HND.out (fun y => by rw [HME.out, oneF_some]) 3
            rw [List.length_map] at hlen
            obtain ⟨xp, yp, rfl⟩ := hp9.shape
            have ST : Hid (OnPl W fb tb (.slice xp (placesOf d' m').length yp) d' m' F' (placesOf d' m') w9) := Lib.hid ⟨T9.out, M9.out, hp9.mono T8.out.bel.size⟩
            clear hp9 hb9 T8 M8 hPL
            generalize placesOf d' m' = Q at *
            go_wp2_with fail
            go_loopw [135] (fun idx wr => ∃ j : Nat, j ≤ Q.length ∧ idx = .int .i64 j ∧ OnPl W fb tb (.slice xp Q.length yp) d' m' F' Q wr) (fun idx _ => Q.length - (RowKit.intOf idx).toNat)
            case atStart => exact ⟨0, by omega, rfl, ST.out⟩
            case round =>
              obtain ⟨j, hj, rfl, hst⟩ := hrel
              clear ST hlen
              have HS := Lib.hid hst
              clear hst
              by_cases hjl : j < Q.length
              · obtain ⟨p, hp⟩ : ∃ p, Q[j]? = some p := ⟨_, List.getElem?_eq_getElem hjl⟩
                obtain ⟨gg, cc, he, hlc, _, hgl, hcell⟩ := HS.out.row.cells (by omega)
                injection he with h1 _ h2
                subst h1 h2
                obtain ⟨k1, k2⟩ := hcell j p hp
                have b2 : (0 : Int) ≤ (j : Int) := by omega
                have b3 : (j : Int) < (Q.length : Int) := by omega
                have hpq := List.mem_of_getElem? hp
                have hpa := (HMP.out p.1 p.2).1 hpq
                have hlv : liveA (adr d' m') p.2 := ⟨hpa.1, p.1, hpa.2⟩
                obtain ⟨wx, hwx⟩ : ∃ wx, wx = wr.alloc (.cells #[.int .i64 p.1, .int .i64 p.2] 46) := ⟨_, rfl⟩
                have hbx : Below wr.heap.size wr wx := by rw [hwx]; exact (Below.refl _ wr).alloc (Nat.le_refl _) _
                have ob : wx.heap[wr.heap.size]? = some (.cells #[.int .i64 p.1, .int .i64 p.2] 46 (0, 0)) := by rw [hwx]; exact blk_new rfl
                have HX2 := HS.out.below hbx
                have lk : ∀ n, (Instr.lookup 27 (.map (some tb)) (.int .i64 p.2) false).run Tryd.prog (wx.drewN n) = .ok (.int .i64 1) (wx.drewN n) := fun n => by
                  have := (HX2.mp.fr (S := fun _ => False) ((Fr.refl _ wx).drewN n) id).look1 klI Tryd.underlying27 zero_int p.2
                  rw [oneF_at hlv] at this
                  exact this
                have hG : ∀ n, Calls Tryd.prog 16 #[.pointer (some ⟨fb, 0, none⟩), .int .i64 p.1] (wx.drewN n) fun e w' => e = .returned (.int .i64 p.2) ∧ w' = wx.drewN n := fun n => by
                  have := get_any (HX2.one.f.fr (S := fun _ => False) ((Fr.refl _ wx).drewN n) (fun _ _ => id) id) HX2.one.inv p.1
                  rw [hpa.2] at this
                  exact this
                have HG := Lib.hid hG; have HX3 := Lib.hid HX2
                have kk0 : wx.cell? ⟨wr.heap.size, 0, none⟩ = some (.int .i64 p.1) := cell_blk_some ob rfl
                have kk1 : wx.cell? ⟨wr.heap.size, 1, none⟩ = some (.int .i64 p.2) := cell_blk_some ob rfl
                clear hcell hp hpq hpa hlv hbx ob hG HX2
                go_upto_region 39 with fail
                rw [← hwx]
                clear hwx
                go_quiet ((go_at_call 16; exact Calls.quiet_of_same (HG.out _)))
                have HX4 := Lib.hid (HX3.out.below (below_drewN (Below.refl _ wx) nq))
                clear lk HG HX3 kk0 kk1
                go_wp2_with fail
                go_roundw
                case rel => exact ⟨j + 1, by omega, by go_num, HX4.out⟩
                case measure => simp only [RowKit.intOf]; omega
              · have hS := HS.out
                have FIN : Hid (OnSt W fb tb next' (i + 1) wr) := Lib.hid ⟨⟨d', m', F', hS.one, HU.out, hS.mp, hFt7, fun y hy => HP.out y ((HLV.out y).1 hy).1⟩, htl7, hn7, by omega, by omega⟩
                clear hS HS
                go_wp2_with fail
                go_roundw
                case rel => exact ⟨next', i + 1, by omega, rfl, by go_num, FIN.out⟩
                case measure => simp only [RowKit.intOf]; omega
    · have hend : ops.length ≤ i ∨ (i < ops.length ∧ 60 ≤ i) := by omega
      clear hgo
      rcases hend with hend | ⟨hend, hend2⟩
      all_goals
        go_wp2_with fail
        go_ret
        exact ⟨rfl, T'.out.bel⟩
end Go.Proofs.YtklamgijikcnaaaDoor
