/- Walk of tree's make. -/
import Derived.Test.YtoofcnehoffllaaT10
import Derived.Test.YtoofcnehoffllaaVals
namespace Go.Proofs.Ytoofcnehoffllaa
open Go.RowKit

/-- The least number from i on that no node has. -/
def leastN (M : TM) (cap : Nat) : Nat → Nat → Option Nat
  | 0, _ => none
  | k + 1, i => if i < cap then (if (M i).isNone then some i else leastN M cap k (i + 1)) else none
/-- What make answers, and what the tree is then. -/
def makeN (M : TM) (cap : Nat) (s : ByteArray) (dir : Bool) : Int × Int × TM :=
  if freshC M s dir ≠ 0 then (0, freshC M s dir, M) else match leadN M 2 (parN s) with
    | .inr _ => (0, 0, M)
    | .inl p => match leastN M cap cap 2 with
      | none => (0, 23, M)
      | some i => ((i : Int), 0, addM M i (freshNd dir) p (parL s))
/-- A tree, its blocks in F. -/
def TAt (w : World) (tb cap : Nat) (F : Nat → Prop) (M : TM) : Prop := ∃ nb P E V, TIn w tb nb cap P E V M ∧ ∀ b, TFoot tb nb P E V b → F b
/-- What a call leaves: a tree, its blocks in F or new; nothing else has turned. -/
def TLeft (w w' : World) (tb cap : Nat) (F : Nat → Prop) (M : TM) : Prop := TAt w' tb cap (fun b => F b ∨ w.heap.size ≤ b) M ∧ Fr F w w'
/-- A directory's map is new; a file has none. -/
def NewMap (w2 w3 : World) (dir : Bool) (eo : Option Nat) : Prop := (dir = true ∧ ∃ e, eo = some e ∧ w2.heap.size ≤ e ∧ w3.heap[e]? = some (.map #[] 0)) ∨ (dir = false ∧ eo = none)
section
variable {w : World} {tb nb cap : Nat} {P E : Nat → Option Nat} {V : Nat → Value} {M : TM}
theorem place_of {M : TM} {s : ByteArray} {pa : Value} {P : Nat → Option Nat} {bp : Nat} (hv : placeV P M s = .tuple #[pa, .int .i64 0]) (hv2 : placeV P M s = .tuple #[placeA (.pointer (some ⟨bp, 0, none⟩)) (parL s) (splitD s) (longN (parN s ++ [parL s])), .int .i64 0]) : pa = placeA (.pointer (some ⟨bp, 0, none⟩)) (parL s) (splitD s) (longN (parN s ++ [parL s])) := by
  rw [hv] at hv2
  injection hv2 with hv2
  have := congrArg (fun a : Array Value => a[0]?) hv2
  simpa using this
theorem place_pa {M : TM} {s : ByteArray} {pa : Value} {P : Nat → Option Nat} (hv : placeV P M s = .tuple #[pa, .int .i64 (placeC M s)]) : ∃ o l b n, pa = placeA (.pointer o) l b n := by
  unfold placeV at hv
  split at hv
  · injection hv with hv
    have := congrArg (fun a : Array Value => a[0]?) hv
    exact ⟨_, _, _, _, by simpa using this.symm⟩
  · split at hv
    · injection hv with hv
      have := congrArg (fun a : Array Value => a[0]?) hv
      exact ⟨_, _, _, _, by simpa using this.symm⟩
    · injection hv with hv
      have := congrArg (fun a : Array Value => a[0]?) hv
      exact ⟨_, _, _, _, by simpa [nptr] using this.symm⟩
theorem TLeft.same {F : Nat → Prop} (h : TIn w tb nb cap P E V M) (hF : ∀ b, TFoot tb nb P E V b → F b) {w' : World} (hb : Below w.heap.size w w') : TLeft w w' tb cap F M :=
  ⟨⟨nb, P, E, V, h.below hb, fun b hb => .inl (hF b hb)⟩, Fr.below hb⟩
theorem make_fin {F : Nat → Prop} {w2 w3 wS wF : World} {i p nbk eb : Nat} {nd : Nd} {f : ByteArray → Option Nat} {cs : Array Value} {eo : Option Nat} {dir : Bool} {s : ByteArray}
    (H2 : TIn w2 tb nb cap P E V M) (hF : ∀ b, TFoot tb nb P E V b → F b) (HB : Below w.heap.size w w2) (hi2 : 2 ≤ i) (hic : i < cap) (hM : M i = none) (hm : M p = some nd) (hf : nd.ents = some f) (hE : E p = some eb)
    (hr : w2.heap[nb]? = some (.cells cs 64 (0, 0))) (hz : cs.size = cap) (hcs : ∀ j, j < cap → cs[j]? = some (nptr (P j))) (hbw : Below w2.heap.size w2 w3) (hnbk : nbk = w2.heap.size)
    (hnk : w3.heap[nbk]? = some (.cells #[.int .i64 i, .map eo, .slice none 0 0, .int .i64 1] 67 (0, 0)))
    (heo : NewMap w2 w3 dir eo)
    (hwS : wS = (w3.setCell ⟨nb, i, none⟩ (.pointer (some ⟨nbk, 0, none⟩))).drew) (hMF : MapIs Value.string wF eb (putK (entF P f) s (.pointer (some ⟨nbk, 0, none⟩)))) (hfF : Fr (fun x => x = eb) wS wF) :
    TLeft w wF tb cap F (addM M i (freshNd dir) p s) := by
  have hr3 := (hbw.block _ (blk_lt hr)).trans hr
  have hnb : nb ≠ nbk := fun e => by have := blk_lt hr; omega
  obtain ⟨es, c, hmp⟩ := H2.elt hE
  have heb : eb < w2.heap.size := blk_lt hmp
  have hneb : nb ≠ eb := fun e => by rw [e, hmp] at hr; injection hr with hr; cases hr
  have hsz : wS.heap.size = w3.heap.size := by rw [hwS]; exact size_set _ _ _
  have hS : ∀ b, b ≠ nb → wS.heap[b]? = w3.heap[b]? := fun b hb => by rw [hwS]; exact heap_setCell_other w3 ⟨nb, i, none⟩ b _ hb
  have hFb : ∀ b, b < w3.heap.size → b ≠ nb → b ≠ eb → wF.heap[b]? = w3.heap[b]? := fun b hb h1 h2 => (hfF.block b (by rw [hsz]; exact hb) h2).trans (hS b h1)
  have h23 : w2.heap.size ≤ w3.heap.size := hbw.size
  have hrS : wS.heap[nb]? = some (.cells (cs.setIfInBounds i (.pointer (some ⟨nbk, 0, none⟩))) 64 (0, 0)) := by rw [hwS]; exact blk_set hr3 _
  have hrF : wF.heap[nb]? = some (.cells (cs.setIfInBounds i (.pointer (some ⟨nbk, 0, none⟩))) 64 (0, 0)) := (hfF.block nb (blk_lt hrS) hneb).trans hrS
  have hT : TIn wF tb nb cap (updO P i (some nbk)) (updO E i eo) V (addM M i (freshNd dir) p s) := H2.add (i := i) (p := p) (pe := eb) (nbk := nbk) (q := nd) (f := f) (s := s) (dir := dir) (eo := eo) ⟨hi2, hic⟩ hM hm hf hE
    ⟨_, hrF, by rw [Array.size_setIfInBounds]; exact hz, fun j hj => by
      rw [Array.getElem?_setIfInBounds]
      by_cases e : i = j
      · rw [if_pos e, if_pos (by omega), e, updO_self]; rfl
      · rw [if_neg e, updO_other (fun e' => e e'.symm)]; exact hcs j hj⟩
    hMF ((hFb nbk (blk_lt hnk) (fun e => hnb e.symm) (by omega)).trans hnk)
    (heo.imp (fun ⟨h1, e, h2, h3, h4⟩ => ⟨h1, e, h2, h3, (hFb e (blk_lt h4) (fun e' => by have := blk_lt hr; omega) (by omega)).trans h4⟩) id)
    (by omega) fun b hb h1 h2 => (hFb b (by omega) h1 h2).trans (hbw.block b hb)
  refine ⟨⟨nb, _, _, V, hT, fun b hb => ?_⟩, ?_⟩
  · have hle := HB.size
    rcases hb with h | h | ⟨x, h⟩ | ⟨x, h⟩ | ⟨x, h⟩
    · exact .inl (hF b (.inl h))
    · exact .inl (hF b (.inr (.inl h)))
    · by_cases e : x = i
      · rw [e, updO_self] at h; injection h with h; right; omega
      · rw [updO_other e] at h; exact .inl (hF b (.inr (.inr (.inl ⟨x, h⟩))))
    · by_cases e : x = i
      · rw [e, updO_self] at h
        rcases heo with ⟨_, e', h2, h3, _⟩ | ⟨_, h2⟩
        · rw [h2] at h; injection h with h; right; omega
        · rw [h2] at h; cases h
      · rw [updO_other e] at h; exact .inl (hF b (.inr (.inr (.inr (.inl ⟨x, h⟩)))))
    · exact .inl (hF b (.inr (.inr (.inr (.inr ⟨x, h⟩)))))
  · have f1 : Fr (fun x => x = nb ∨ x = eb) w w2 := Fr.below HB
    have f2 : Fr (fun x => x = nb ∨ x = eb) w2 w3 := Fr.below hbw
    have f3 : Fr (fun x => x = nb ∨ x = eb) w3 wS := by rw [hwS]; exact ((Fr.refl _ w3).setCell ⟨nb, i, none⟩ (.inl rfl) _).drew
    have f4 : Fr (fun x => x = nb ∨ x = eb) wS wF := hfF.tell fun x hx => .inr hx
    refine (((f1.trans f2).trans f3).trans f4).tell fun x hx => ?_
    rcases hx with rfl | rfl
    · exact hF _ (.inr (.inl rfl))
    · exact hF _ (.inr (.inr (.inr (.inl ⟨p, hE⟩))))
set_option maxHeartbeats 4000000 in
set_option maxRecDepth 100000 in
theorem make_any {F : Nat → Prop} (hAt : TAt w tb cap F M) (s : ByteArray) (hs : s.size ≤ 1000000) (dir : Bool) :
    Calls Try.prog 27 #[.pointer (some ⟨tb, 0, none⟩), .string s, .bool dir] w fun e w' => e = .returned (.tuple #[.int .i64 (makeN M cap s dir).1, .int .i64 (makeN M cap s dir).2.1]) ∧ TLeft w w' tb cap F (makeN M cap s dir).2.2 := by
  obtain ⟨nb, P, E, V, h, hFt⟩ := hAt
  have HFT := Lib.hid hFt
  clear hFt
  have HT := Lib.hid h
  have HF := Lib.hid (fresh_any h s hs dir)
  by_cases hc : freshC M s dir = 0
  · have hpc : placeC M s = 0 := by
      unfold freshC at hc
      by_cases q : placeC M s = 0
      · exact q
      · rw [if_pos q] at hc; exact hc
    rcases place_ways h s with ⟨hn, _⟩ | ⟨_, p, bp, eb, nd, hl, hm, hd, hp, he, hv⟩
    · exact absurd hpc hn
    · have HV := Lib.hid hv; have HPC := Lib.hid hpc; have HM := Lib.hid hm; have HD := Lib.hid hd; have HPP := Lib.hid hp; have HEE := Lib.hid he
      have HMK : Hid (makeN M cap s dir = match leastN M cap cap 2 with
        | none => (0, 23, M)
        | some i => ((i : Int), 0, addM M i (freshNd dir) p (parL s))) := Lib.hid (by unfold makeN; rw [if_neg (by rw [hc]; simp), hl])
      rw [hc] at HF
      clear h hpc hl hm hd hp he hv hc
      go_enter Try.func27, Try.ntmps27
      go_wp2_with fail
      refine HF.out.mono ?_
      rintro e w1 ⟨⟨pa, hpv, rfl⟩, hb1⟩
      rw [HPC.out] at hpv
      obtain rfl := place_of hpv HV.out
      have H1 := Lib.hid (HT.out.below hb1)
      have OX : Hid ((w1.alloc (.cells #[.pointer (some ⟨bp, 0, none⟩), .string (parL s), .bool (splitD s), .int .i64 (longN (parN s ++ [parL s]))] 81)).heap[w1.heap.size]? = some (.cells #[.pointer (some ⟨bp, 0, none⟩), .string (parL s), .bool (splitD s), .int .i64 (longN (parN s ++ [parL s]))] 81 (0, 0))) := Lib.hid (blk_new rfl)
      have HBA := Lib.hid (below_call hb1 (show Below w1.heap.size w1 (w1.alloc (.cells #[.pointer (some ⟨bp, 0, none⟩), .string (parL s), .bool (splitD s), .int .i64 (longN (parN s ++ [parL s]))] 81)) from (Below.refl _ w1).alloc (Nat.le_refl _) _) (Nat.le_refl _))
      clear hb1 hpv HF
      unfold placeA
      go_wp2_with fail
      generalize (w1.alloc (.cells #[.pointer (some ⟨bp, 0, none⟩), .string (parL s), .bool (splitD s), .int .i64 (longN (parN s ++ [parL s]))] 81)) = w2 at *
      generalize w1.heap.size = xb at *
      have H2 := Lib.hid (HT.out.below HBA.out)
      obtain ⟨cs, hr, hz, hcs⟩ := H2.out.row
      have ct := cell_blk_some H2.out.top (i := 0) rfl
      have HR := Lib.hid hr; have HZ := Lib.hid hz; have HCS := Lib.hid hcs
      have hcapb := H2.out.capB
      clear hr hz hcs H1
      go_loop [10] (fun idx => ∃ i : Nat, 2 ≤ i ∧ i ≤ cap ∧ idx = .int .i64 i ∧ leastN M cap cap 2 = leastN M cap (cap + 2 - i) i) (fun idx => cap - (RowKit.intOf idx).toNat)
      case atStart => exact ⟨2, by omega, by have := (H2.out.ok.low 2 _ (Option.isSome_iff_exists.1 H2.out.ok.root_there).choose_spec).2; omega, rfl, rfl⟩
      case round =>
        obtain ⟨i, hi2, hic, rfl, hle⟩ := hrel
        have HLE := Lib.hid hle
        clear hle
        by_cases hi : i < cap
        · have hc1 := cell_blk_some HR.out (HCS.out i hi)
          have b0 : (0 : Int) ≤ (i : Int) := by omega
          have b1 : (i : Int) < (cap : Int) := by omega
          cases hP : P i with
          | some bi =>
            rw [hP] at hc1
            have hc1' : w2.cell? ⟨nb, i, none⟩ = some (.pointer (some ⟨bi, 0, none⟩)) := hc1
            have HNX : Hid (leastN M cap cap 2 = leastN M cap (cap + 2 - (i + 1)) (i + 1)) := Lib.hid (by
              have hd := H2.out.dom i
              rw [hP] at hd
              rw [HLE.out, show cap + 2 - i = (cap + 2 - (i + 1)) + 1 by omega]
              show (if i < cap then (if (M i).isNone then some i else leastN M cap (cap + 2 - (i + 1)) (i + 1)) else none) = _
              rw [if_pos hi, if_neg (by
                cases hq : M i with
                | none => rw [hq] at hd; cases hd
                | some v => simp)])
            clear hc1
            go_wp2_with fail
            go_roundw
            case rel => exact ⟨i + 1, by omega, by omega, by go_num, HNX.out⟩
            case measure => simp only [RowKit.intOf]; omega
          | none =>
            rw [hP] at hc1
            have hc1' : w2.cell? ⟨nb, i, none⟩ = some (.pointer none) := hc1
            clear hc1
            cases dir
            · skip
              have HMN : Hid (M i = none) := Lib.hid (by
                have hd := H2.out.dom i
                rw [hP] at hd
                cases hq : M i with
                | none => rfl
                | some v => rw [hq] at hd; cases hd)
              have HRES : Hid (makeN M cap s false = ((i : Int), 0, addM M i (freshNd false) p (parL s))) := Lib.hid (by
                rw [HMK.out, HLE.out, show cap + 2 - i = (cap + 1 - i) + 1 by omega]
                show (match (if i < cap then (if (M i).isNone then some i else leastN M cap (cap + 1 - i) (i + 1)) else none) with | none => _ | some i => _) = _
                rw [if_pos hi, if_pos (by rw [HMN.out]; rfl)])
              go_wp2_with fail
              obtain ⟨w3, hw3⟩ : ∃ w3, w3 = (w2.alloc (.cells #[.int .i64 i, .map none, .slice none 0 0, .int .i64 1] 67)) := ⟨_, rfl⟩
              have hbw : Below w2.heap.size w2 w3 := by rw [hw3]; exact (Below.refl _ w2).alloc (Nat.le_refl _) _
              have hnk : w3.heap[w2.heap.size]? = some (.cells #[.int .i64 i, .map (none), .slice none 0 0, .int .i64 1] 67 (0, 0)) := by rw [hw3]; exact blk_new rfl
              have heo : NewMap w2 w3 false (none) := .inr ⟨rfl, rfl⟩
              have H3 := H2.out.below hbw
              have hOX3 := (hbw.block _ (blk_lt OX.out)).trans OX.out
              have hR3 := (hbw.block _ (blk_lt HR.out)).trans HR.out
              have hN3 := H3.node p bp nd HPP.out HM.out
              obtain ⟨f, hf, hMp⟩ : ∃ f, nd.ents = some f ∧ MapIs Value.string w3 eb (entF P f) := by
                have := H3.ents p nd HM.out
                have hd := HD.out
                unfold Nd.dir at hd
                cases hq : nd.ents with
                | none => rw [hq] at hd; cases hd
                | some f =>
                  rw [hq] at this
                  obtain ⟨eb', he', hM'⟩ := this
                  rw [HEE.out] at he'
                  injection he' with he'
                  rw [he']
                  exact ⟨f, rfl, hM'⟩
              have hE3 : E p = some eb := HEE.out
              rw [hE3] at hN3
              obtain ⟨wS, hwS⟩ : ∃ wS, wS = (w3.setCell ⟨nb, i, none⟩ (.pointer (some ⟨w2.heap.size, 0, none⟩))).drew := ⟨_, rfl⟩
              have hoffM : ∀ {b : Nat} {c : Array Value} {t : TypeId} {z : Nat × Nat}, w3.heap[b]? = some (.cells c t z) → t ≠ 64 → wS.heap[b]? = some (.cells c t z) := fun {b c t z} hb ht => by
                rw [hwS]
                exact blk_set_other (w := w3) hb (fun e => by
                  rw [e, hR3] at hb
                  injection hb with hb
                  injection hb with _ hb _
                  exact ht hb.symm) _
              have hMS : MapIs Value.string wS eb (entF P f) := hMp.same (by
                rw [hwS]
                obtain ⟨es, c, hm0, _⟩ := hMp
                exact heap_setCell_other w3 ⟨nb, i, none⟩ eb _ fun e => by
                  rw [show eb = nb from e, hR3] at hm0
                  injection hm0 with hm0
                  cases hm0)
              obtain ⟨wE, st, hme, hME, hfE, hst⟩ := hMS.bump klS Try.underlying65 zero_node (parL s)
              obtain ⟨wF, hes, hMF, hfF⟩ := hst (.pointer (some ⟨w2.heap.size, 0, none⟩))
              rw [hwS] at hme
              have y0 := cell_blk_some hOX3 (i := 0) rfl
              have y1 := cell_blk_some hOX3 (i := 1) rfl
              have y2 := cell_blk_some H3.top (i := 0) rfl
              have y3 := cell_blk_some hN3 (i := 1) rfl
              have y4 := cell_blk_some hR3 (HCS.out i hi)
              rw [hP] at y4
              have y4 : w3.cell? ⟨nb, i, none⟩ = some (.pointer none) := y4
              have y5 := free_blk (i := i) hR3
              have z0 := cell_blk_some (hoffM hOX3 (by decide)) (i := 0) rfl
              have z1 := cell_blk_some (hoffM hOX3 (by decide)) (i := 1) rfl
              rw [hwS] at z0 z1
              have z0' : (w3.setCell ⟨nb, i, none⟩ (.pointer (some ⟨w2.heap.size, 0, none⟩))).cell? ⟨xb, 0, none⟩ = _ := z0
              have z1' : (w3.setCell ⟨nb, i, none⟩ (.pointer (some ⟨w2.heap.size, 0, none⟩))).cell? ⟨xb, 1, none⟩ = _ := z1
              have HX := Lib.hid hbw; have HN := Lib.hid hnk; have HO := Lib.hid heo; have HH3 := Lib.hid H3; have HFF := Lib.hid hf; have HMF := Lib.hid hMF; have HFE := Lib.hid hfE; have HFF2 := Lib.hid hfF; have HWS := Lib.hid hwS; have HR3 := Lib.hid hR3
              clear hbw hnk heo H3 hOX3 hR3 hN3 hf hMp hE3 hMS hME hMF hst hfE hfF hoffM ct hc1' hwS
              rw [← hw3]
              clear hw3
              go_region_law (fail)
              all_goals
                go_wp2_with fail
                go_ret2
                rw [HRES.out]
                exact ⟨rfl, make_fin (dir := false) (eo := (none)) H2.out HFT.out HBA.out hi2 hi HMN.out HM.out HFF.out HEE.out HR.out HZ.out HCS.out HX.out rfl HN.out HO.out HWS.out HMF.out HFF2.out⟩
            · skip
              have mm := fun w => run_makeMap (P := Try.prog) 65 w
              have HMN : Hid (M i = none) := Lib.hid (by
                have hd := H2.out.dom i
                rw [hP] at hd
                cases hq : M i with
                | none => rfl
                | some v => rw [hq] at hd; cases hd)
              have HRES : Hid (makeN M cap s true = ((i : Int), 0, addM M i (freshNd true) p (parL s))) := Lib.hid (by
                rw [HMK.out, HLE.out, show cap + 2 - i = (cap + 1 - i) + 1 by omega]
                show (match (if i < cap then (if (M i).isNone then some i else leastN M cap (cap + 1 - i) (i + 1)) else none) with | none => _ | some i => _) = _
                rw [if_pos hi, if_pos (by rw [HMN.out]; rfl)])
              go_wp2_with fail
              obtain ⟨w3, hw3⟩ : ∃ w3, w3 = ((w2.alloc (.cells #[.int .i64 i, .map (some (w2.heap.size + 1)), .slice none 0 0, .int .i64 1] 67)).alloc (.map #[] 0)) := ⟨_, rfl⟩
              have hbw : Below w2.heap.size w2 w3 := by rw [hw3]; exact ((Below.refl _ w2).alloc (Nat.le_refl _) _).alloc (by simp) _
              have hnk : w3.heap[w2.heap.size]? = some (.cells #[.int .i64 i, .map (some (w2.heap.size + 1)), .slice none 0 0, .int .i64 1] 67 (0, 0)) := by rw [hw3]; exact blk_old (blk_new rfl)
              have heo : NewMap w2 w3 true (some (w2.heap.size + 1)) := by rw [hw3]; exact .inl ⟨rfl, _, rfl, by omega, blk_new (by simp)⟩
              have H3 := H2.out.below hbw
              have hOX3 := (hbw.block _ (blk_lt OX.out)).trans OX.out
              have hR3 := (hbw.block _ (blk_lt HR.out)).trans HR.out
              have hN3 := H3.node p bp nd HPP.out HM.out
              obtain ⟨f, hf, hMp⟩ : ∃ f, nd.ents = some f ∧ MapIs Value.string w3 eb (entF P f) := by
                have := H3.ents p nd HM.out
                have hd := HD.out
                unfold Nd.dir at hd
                cases hq : nd.ents with
                | none => rw [hq] at hd; cases hd
                | some f =>
                  rw [hq] at this
                  obtain ⟨eb', he', hM'⟩ := this
                  rw [HEE.out] at he'
                  injection he' with he'
                  rw [he']
                  exact ⟨f, rfl, hM'⟩
              have hE3 : E p = some eb := HEE.out
              rw [hE3] at hN3
              obtain ⟨wS, hwS⟩ : ∃ wS, wS = (w3.setCell ⟨nb, i, none⟩ (.pointer (some ⟨w2.heap.size, 0, none⟩))).drew := ⟨_, rfl⟩
              have hoffM : ∀ {b : Nat} {c : Array Value} {t : TypeId} {z : Nat × Nat}, w3.heap[b]? = some (.cells c t z) → t ≠ 64 → wS.heap[b]? = some (.cells c t z) := fun {b c t z} hb ht => by
                rw [hwS]
                exact blk_set_other (w := w3) hb (fun e => by
                  rw [e, hR3] at hb
                  injection hb with hb
                  injection hb with _ hb _
                  exact ht hb.symm) _
              have hMS : MapIs Value.string wS eb (entF P f) := hMp.same (by
                rw [hwS]
                obtain ⟨es, c, hm0, _⟩ := hMp
                exact heap_setCell_other w3 ⟨nb, i, none⟩ eb _ fun e => by
                  rw [show eb = nb from e, hR3] at hm0
                  injection hm0 with hm0
                  cases hm0)
              obtain ⟨wE, st, hme, hME, hfE, hst⟩ := hMS.bump klS Try.underlying65 zero_node (parL s)
              obtain ⟨wF, hes, hMF, hfF⟩ := hst (.pointer (some ⟨w2.heap.size, 0, none⟩))
              rw [hwS] at hme
              have y0 := cell_blk_some hOX3 (i := 0) rfl
              have y1 := cell_blk_some hOX3 (i := 1) rfl
              have y2 := cell_blk_some H3.top (i := 0) rfl
              have y3 := cell_blk_some hN3 (i := 1) rfl
              have y4 := cell_blk_some hR3 (HCS.out i hi)
              rw [hP] at y4
              have y4 : w3.cell? ⟨nb, i, none⟩ = some (.pointer none) := y4
              have y5 := free_blk (i := i) hR3
              have z0 := cell_blk_some (hoffM hOX3 (by decide)) (i := 0) rfl
              have z1 := cell_blk_some (hoffM hOX3 (by decide)) (i := 1) rfl
              rw [hwS] at z0 z1
              have z0' : (w3.setCell ⟨nb, i, none⟩ (.pointer (some ⟨w2.heap.size, 0, none⟩))).cell? ⟨xb, 0, none⟩ = _ := z0
              have z1' : (w3.setCell ⟨nb, i, none⟩ (.pointer (some ⟨w2.heap.size, 0, none⟩))).cell? ⟨xb, 1, none⟩ = _ := z1
              have HX := Lib.hid hbw; have HN := Lib.hid hnk; have HO := Lib.hid heo; have HH3 := Lib.hid H3; have HFF := Lib.hid hf; have HMF := Lib.hid hMF; have HFE := Lib.hid hfE; have HFF2 := Lib.hid hfF; have HWS := Lib.hid hwS; have HR3 := Lib.hid hR3
              clear hbw hnk heo H3 hOX3 hR3 hN3 hf hMp hE3 hMS hME hMF hst hfE hfF hoffM ct hc1' hwS
              rw [← hw3]
              clear hw3
              go_region_law (fail)
              all_goals
                go_wp2_with fail
                go_ret2
                rw [HRES.out]
                exact ⟨rfl, make_fin (dir := true) (eo := (some (w2.heap.size + 1))) H2.out HFT.out HBA.out hi2 hi HMN.out HM.out HFF.out HEE.out HR.out HZ.out HCS.out HX.out rfl HN.out HO.out HWS.out HMF.out HFF2.out⟩
        · obtain rfl : i = cap := by omega
          have HRES : Hid (makeN M i s dir = (0, 23, M)) := Lib.hid (by
            rw [HMK.out, HLE.out, show i + 2 - i = 1 + 1 by omega]
            show (match (if i < i then (if (M i).isNone then some i else leastN M i 1 (i + 1)) else none) with | none => _ | some i => _) = _
            rw [if_neg (by omega)])
          have HLT := Lib.hid (TLeft.same HT.out HFT.out HBA.out)
          clear HMK HLE HCS HZ HR
          go_wp2_with fail
          go_ret2
          rw [HRES.out]
          exact ⟨rfl, HLT.out⟩
  · have HRES : Hid (makeN M cap s dir = (0, freshC M s dir, M)) := Lib.hid (by unfold makeN; rw [if_pos hc])
    have hce : (freshC M s dir != 0) = true := by simp [hc]
    generalize freshC M s dir = fc at *
    clear h hc
    go_enter Try.func27, Try.ntmps27
    go_wp2_with fail
    refine HF.out.mono ?_
    rintro e w1 ⟨⟨pa, hpv, rfl⟩, hb1⟩
    obtain ⟨po, pl, pb, pn, rfl⟩ := place_pa hpv
    have HLT := Lib.hid (TLeft.same HT.out HFT.out (below_call hb1 (show Below w1.heap.size w1 (w1.alloc (.cells #[.pointer po, .string pl, .bool pb, .int .i64 pn] 81)) from (Below.refl _ w1).alloc (Nat.le_refl _) _) (Nat.le_refl _)))
    clear hb1 hpv HF
    unfold placeA
    go_wp2_with fail
    go_ret2
    rw [HRES.out]
    exact ⟨rfl, HLT.out⟩
end
end Go.Proofs.Ytoofcnehoffllaa
