/- Walk of tree's make. -/
/- A tree's memory: a directory's map, a node's cells, a node that is gone. -/
/- Walk of tree's drop. -/
/- Walks of notFile and notEmpty; how many names each node has. -/
/- What is always so of a tree: names and links, all is reached. -/
import Derived.Test.YtoofcnehoffllaaGreatT10
import Derived.Test.YtoofcnehoffllaaGreatVals
namespace Go.Proofs.YtoofcnehoffllaaGreat
open Go.RowKit

/-- The least number from i on that no node has. -/
def leastN (M : TM) (cap : Nat) : Nat → Nat → Option Nat
  | 0, _ => none
  | k + 1, i => if i < cap then (if (M i).isNone then some i else leastN M cap k (i + 1)) else none
/-- What make answers, and what the tree is then. -/
def makeN (M : TM) (cap : Nat) (s : ByteArray) (dir : Bool) : Int × Int × TM :=
  if freshC M s dir ≠ 0 then (0, freshC M s dir, M) else match leadN M 2 (parN s) with
    | .inr _ => (0, 0, M)
    | .inl p => match leastN M cap cap 2 with
      | none => (0, 23, M)
      | some i => ((i : Int), 0, addM M i (freshNd dir) p (parL s))
/-- A tree, its blocks in F. -/
def TAt (w : World) (tb cap : Nat) (F : Nat → Prop) (M : TM) : Prop := ∃ nb P E V, TIn w tb nb cap P E V M ∧ ∀ b, TFoot tb nb P E V b → F b
/-- What a call leaves: a tree, its blocks in F or new; nothing else has turned. -/
def TLeft (w w' : World) (tb cap : Nat) (F : Nat → Prop) (M : TM) : Prop := TAt w' tb cap (fun b => F b ∨ w.heap.size ≤ b) M ∧ Fr F w w'
/-- A directory's map is new; a file has none. -/
def NewMap (w2 w3 : World) (dir : Bool) (eo : Option Nat) : Prop := (dir = true ∧ ∃ e, eo = some e ∧ w2.heap.size ≤ e ∧ w3.heap[e]? = some (.map #[] 0)) ∨ (dir = false ∧ eo = none)
section
variable {w : World} {tb nb cap : Nat} {P E : Nat → Option Nat} {V : Nat → Value} {M : TM}
theorem place_of {M : TM} {s : ByteArray} {pa : Value} {P : Nat → Option Nat} {bp : Nat} (hv : placeV P M s = .tuple #[pa, .int .i64 0]) (hv2 : placeV P M s = .tuple #[placeA (.pointer (some ⟨bp, 0, none⟩)) (parL s) (splitD s) (longN (parN s ++ [parL s])), .int .i64 0]) : pa = placeA (.pointer (some ⟨bp, 0, none⟩)) (parL s) (splitD s) (longN (parN s ++ [parL s])) := by
  rw [hv] at hv2
  injection hv2 with hv2
  have := congrArg (fun a : Array Value => a[0]?) hv2
  simpa using this
theorem place_pa {M : TM} {s : ByteArray} {pa : Value} {P : Nat → Option Nat} (hv : placeV P M s = .tuple #[pa, .int .i64 (placeC M s)]) : ∃ o l b n, pa = placeA (.pointer o) l b n := by
  unfold placeV at hv
  split at hv
  · injection hv with hv
    have := congrArg (fun a : Array Value => a[0]?) hv
    exact ⟨_, _, _, _, by simpa using this.symm⟩
  · split at hv
    · injection hv with hv
      have := congrArg (fun a : Array Value => a[0]?) hv
      exact ⟨_, _, _, _, by simpa using this.symm⟩
    · injection hv with hv
      have := congrArg (fun a : Array Value => a[0]?) hv
      exact ⟨_, _, _, _, by simpa [nptr] using this.symm⟩
theorem TLeft.same {F : Nat → Prop} (h : TIn w tb nb cap P E V M) (hF : ∀ b, TFoot tb nb P E V b → F b) {w' : World} (hb : Below w.heap.size w w') : TLeft w w' tb cap F M :=
  ⟨⟨nb, P, E, V, h.below hb, fun b hb => .inl (hF b hb)⟩, Fr.below hb⟩
theorem make_fin {F : Nat → Prop} {w2 w3 wS wF : World} {i p nbk eb : Nat} {nd : Nd} {f : ByteArray → Option Nat} {cs : Array Value} {eo : Option Nat} {dir : Bool} {s : ByteArray}
    (H2 : TIn w2 tb nb cap P E V M) (hF : ∀ b, TFoot tb nb P E V b → F b) (HB : Below w.heap.size w w2) (hi2 : 2 ≤ i) (hic : i < cap) (hM : M i = none) (hm : M p = some nd) (hf : nd.ents = some f) (hE : E p = some eb)
    (hr : w2.heap[nb]? = some (.cells cs 68 (0, 0))) (hz : cs.size = cap) (hcs : ∀ j, j < cap → cs[j]? = some (nptr (P j))) (hbw : Below w2.heap.size w2 w3) (hnbk : nbk = w2.heap.size)
    (hnk : w3.heap[nbk]? = some (.cells #[.int .i64 i, .map eo, .slice none 0 0, .int .i64 1] 71 (0, 0)))
    (heo : NewMap w2 w3 dir eo)
    (hwS : wS = (w3.setCell ⟨nb, i, none⟩ (.pointer (some ⟨nbk, 0, none⟩))).drew) (hMF : MapIs Value.string wF eb (putK (entF P f) s (.pointer (some ⟨nbk, 0, none⟩)))) (hfF : Fr (fun x => x = eb) wS wF) :
    TLeft w wF tb cap F (addM M i (freshNd dir) p s) := by
  have hr3 := (hbw.block _ (blk_lt hr)).trans hr
  have hnb : nb ≠ nbk := fun e => by have := blk_lt hr; omega
  obtain ⟨es, c, hmp⟩ := H2.elt hE
  have heb : eb < w2.heap.size := blk_lt hmp
  have hneb : nb ≠ eb := fun e => by rw [e, hmp] at hr; injection hr with hr; cases hr
  have hsz : wS.heap.size = w3.heap.size := by rw [hwS]; exact size_set _ _ _
  have hS : ∀ b, b ≠ nb → wS.heap[b]? = w3.heap[b]? := fun b hb => by rw [hwS]; exact heap_setCell_other w3 ⟨nb, i, none⟩ b _ hb
  have hFb : ∀ b, b < w3.heap.size → b ≠ nb → b ≠ eb → wF.heap[b]? = w3.heap[b]? := fun b hb h1 h2 => (hfF.block b (by rw [hsz]; exact hb) h2).trans (hS b h1)
  have h23 : w2.heap.size ≤ w3.heap.size := hbw.size
  have hrS : wS.heap[nb]? = some (.cells (cs.setIfInBounds i (.pointer (some ⟨nbk, 0, none⟩))) 68 (0, 0)) := by rw [hwS]; exact blk_set hr3 _
  have hrF : wF.heap[nb]? = some (.cells (cs.setIfInBounds i (.pointer (some ⟨nbk, 0, none⟩))) 68 (0, 0)) := (hfF.block nb (blk_lt hrS) hneb).trans hrS
  have hT : TIn wF tb nb cap (updO P i (some nbk)) (updO E i eo) V (addM M i (freshNd dir) p s) := H2.add (i := i) (p := p) (pe := eb) (nbk := nbk) (q := nd) (f := f) (s := s) (dir := dir) (eo := eo) ⟨hi2, hic⟩ hM hm hf hE
    ⟨_, hrF, by rw [Array.size_setIfInBounds]; exact hz, fun j hj => by
      rw [Array.getElem?_setIfInBounds]
      by_cases e : i = j
      · rw [if_pos e, if_pos (by omega), e, updO_self]; rfl
      · rw [if_neg e, updO_other (fun e' => e e'.symm)]; exact hcs j hj⟩
    hMF ((hFb nbk (blk_lt hnk) (fun e => hnb e.symm) (by omega)).trans hnk)
    (heo.imp (fun ⟨h1, e, h2, h3, h4⟩ => ⟨h1, e, h2, h3, (hFb e (blk_lt h4) (fun e' => by have := blk_lt hr; omega) (by omega)).trans h4⟩) id)
    (by omega) fun b hb h1 h2 => (hFb b (by omega) h1 h2).trans (hbw.block b hb)
  refine ⟨⟨nb, _, _, V, hT, fun b hb => ?_⟩, ?_⟩
  · have hle := HB.size
    rcases hb with h | h | ⟨x, h⟩ | ⟨x, h⟩ | ⟨x, h⟩
    · exact .inl (hF b (.inl h))
    · exact .inl (hF b (.inr (.inl h)))
    · by_cases e : x = i
      · rw [e, updO_self] at h; injection h with h; right; omega
      · rw [updO_other e] at h; exact .inl (hF b (.inr (.inr (.inl ⟨x, h⟩))))
    · by_cases e : x = i
      · rw [e, updO_self] at h
        rcases heo with ⟨_, e', h2, h3, _⟩ | ⟨_, h2⟩
        · rw [h2] at h; injection h with h; right; omega
        · rw [h2] at h; cases h
      · rw [updO_other e] at h; exact .inl (hF b (.inr (.inr (.inr (.inl ⟨x, h⟩)))))
    · exact .inl (hF b (.inr (.inr (.inr (.inr ⟨x, h⟩)))))
  · have f1 : Fr (fun x => x = nb ∨ x = eb) w w2 := Fr.below HB
    have f2 : Fr (fun x => x = nb ∨ x = eb) w2 w3 := Fr.below hbw
    have f3 : Fr (fun x => x = nb ∨ x = eb) w3 wS := by rw [hwS]; exact ((Fr.refl _ w3).setCell ⟨nb, i, none⟩ (.inl rfl) _).drew
    have f4 : Fr (fun x => x = nb ∨ x = eb) wS wF := hfF.tell fun x hx => .inr hx
    refine (((f1.trans f2).trans f3).trans f4).tell fun x hx => ?_
    rcases hx with rfl | rfl
    · exact hF _ (.inr (.inl rfl))
    · exact hF _ (.inr (.inr (.inr (.inl ⟨p, hE⟩))))
set_option maxHeartbeats 4000000 in
set_option maxRecDepth 100000 in
theorem make_any {F : Nat → Prop} (hAt : TAt w tb cap F M) (s : ByteArray) (hs : s.size ≤ 1000000) (dir : Bool) :
    Calls Tryz.prog 41 #[.pointer (some ⟨tb, 0, none⟩), .string s, .bool dir] w fun e w' => e = .returned (.tuple #[.int .i64 (makeN M cap s dir).1, .int .i64 (makeN M cap s dir).2.1]) ∧ TLeft w w' tb cap F (makeN M cap s dir).2.2 := by
  obtain ⟨nb, P, E, V, h, hFt⟩ := hAt
  have HFT := Lib.hid hFt
  clear hFt
  have HT := Lib.hid h
  have HF := Lib.hid (fresh_any h s hs dir)
  by_cases hc : freshC M s dir = 0
  · have hpc : placeC M s = 0 := by
      unfold freshC at hc
      by_cases q : placeC M s = 0
      · exact q
      · rw [if_pos q] at hc; exact hc
    rcases place_ways h s with ⟨hn, _⟩ | ⟨_, p, bp, eb, nd, hl, hm, hd, hp, he, hv⟩
    · exact absurd hpc hn
    · have HV := Lib.hid hv; have HPC := Lib.hid hpc; have HM := Lib.hid hm; have HD := Lib.hid hd; have HPP := Lib.hid hp; have HEE := Lib.hid he
      have HMK : Hid (makeN M cap s dir = match leastN M cap cap 2 with
        | none => (0, 23, M)
        | some i => ((i : Int), 0, addM M i (freshNd dir) p (parL s))) := Lib.hid (by unfold makeN; rw [if_neg (by rw [hc]; simp), hl])
      rw [hc] at HF
      clear h hpc hl hm hd hp he hv hc
      go_enter Tryz.func41, Tryz.ntmps41
      go_wp2_with fail
      refine HF.out.mono ?_
      rintro e w1 ⟨⟨pa, hpv, rfl⟩, hb1⟩
      rw [HPC.out] at hpv
      obtain rfl := place_of hpv HV.out
      have H1 := Lib.hid (HT.out.below hb1)
      have OX : Hid ((w1.alloc (.cells #[.pointer (some ⟨bp, 0, none⟩), .string (parL s), .bool (splitD s), .int .i64 (longN (parN s ++ [parL s]))] 102)).heap[w1.heap.size]? = some (.cells #[.pointer (some ⟨bp, 0, none⟩), .string (parL s), .bool (splitD s), .int .i64 (longN (parN s ++ [parL s]))] 102 (0, 0))) := Lib.hid (blk_new rfl)
      have HBA := Lib.hid (below_call hb1 (show Below w1.heap.size w1 (w1.alloc (.cells #[.pointer (some ⟨bp, 0, none⟩), .string (parL s), .bool (splitD s), .int .i64 (longN (parN s ++ [parL s]))] 102)) from (Below.refl _ w1).alloc (Nat.le_refl _) _) (Nat.le_refl _))
      clear hb1 hpv HF
      unfold placeA
      go_wp2_with fail
      generalize (w1.alloc (.cells #[.pointer (some ⟨bp, 0, none⟩), .string (parL s), .bool (splitD s), .int .i64 (longN (parN s ++ [parL s]))] 102)) = w2 at *
      generalize w1.heap.size = xb at *
      have H2 := Lib.hid (HT.out.below HBA.out)
      obtain ⟨cs, hr, hz, hcs⟩ := H2.out.row
      have ct := cell_blk_some H2.out.top (i := 0) rfl
      have HR := Lib.hid hr; have HZ := Lib.hid hz; have HCS := Lib.hid hcs
      have hcapb := H2.out.capB
      clear hr hz hcs H1
      go_loop [10] (fun idx => ∃ i : Nat, 2 ≤ i ∧ i ≤ cap ∧ idx = .int .i64 i ∧ leastN M cap cap 2 = leastN M cap (cap + 2 - i) i) (fun idx => cap - (RowKit.intOf idx).toNat)
      case atStart => exact ⟨2, by omega, by have := (H2.out.ok.low 2 _ (Option.isSome_iff_exists.1 H2.out.ok.root_there).choose_spec).2; omega, rfl, rfl⟩
      case round =>
        obtain ⟨i, hi2, hic, rfl, hle⟩ := hrel
        have HLE := Lib.hid hle
        clear hle
        by_cases hi : i < cap
        · have hc1 := cell_blk_some HR.out (HCS.out i hi)
          have b0 : (0 : Int) ≤ (i : Int) := by omega
          have b1 : (i : Int) < (cap : Int) := by omega
          cases hP : P i with
          | some bi =>
            rw [hP] at hc1
            have hc1' : w2.cell? ⟨nb, i, none⟩ = some (.pointer (some ⟨bi, 0, none⟩)) := hc1
            have HNX : Hid (leastN M cap cap 2 = leastN M cap (cap + 2 - (i + 1)) (i + 1)) := Lib.hid (by
              have hd := H2.out.dom i
              rw [hP] at hd
              rw [HLE.out, show cap + 2 - i = (cap + 2 - (i + 1)) + 1 by omega]
              show (if i < cap then (if (M i).isNone then some i else leastN M cap (cap + 2 - (i + 1)) (i + 1)) else none) = _
              rw [if_pos hi, if_neg (by
                cases hq : M i with
                | none => rw [hq] at hd; cases hd
                | some v => simp)])
            clear hc1
            go_wp2_with fail
            go_roundw
            case rel => exact ⟨i + 1, by omega, by omega, by go_num, HNX.out⟩
            case measure => simp only [RowKit.intOf]; omega
          | none =>
            rw [hP] at hc1
            have hc1' : w2.cell? ⟨nb, i, none⟩ = some (.pointer none) := hc1
            clear hc1
            cases dir
            · skip
              have HMN : Hid (M i = none) := Lib.hid (by
                have hd := H2.out.dom i
                rw [hP] at hd
                cases hq : M i with
                | none => rfl
                | some v => rw [hq] at hd; cases hd)
              have HRES : Hid (makeN M cap s false = ((i : Int), 0, addM M i (freshNd false) p (parL s))) := Lib.hid (by
                rw [HMK.out, HLE.out, show cap + 2 - i = (cap + 1 - i) + 1 by omega]
                show (match (if i < cap then (if (M i).isNone then some i else leastN M cap (cap + 1 - i) (i + 1)) else none) with | none => _ | some i => _) = _
                rw [if_pos hi, if_pos (by rw [HMN.out]; rfl)])
              go_wp2_with fail
              obtain ⟨w3, hw3⟩ : ∃ w3, w3 = (w2.alloc (.cells #[.int .i64 i, .map none, .slice none 0 0, .int .i64 1] 71)) := ⟨_, rfl⟩
              have hbw : Below w2.heap.size w2 w3 := by rw [hw3]; exact (Below.refl _ w2).alloc (Nat.le_refl _) _
              have hnk : w3.heap[w2.heap.size]? = some (.cells #[.int .i64 i, .map (none), .slice none 0 0, .int .i64 1] 71 (0, 0)) := by rw [hw3]; exact blk_new rfl
              have heo : NewMap w2 w3 false (none) := .inr ⟨rfl, rfl⟩
              have H3 := H2.out.below hbw
              have hOX3 := (hbw.block _ (blk_lt OX.out)).trans OX.out
              have hR3 := (hbw.block _ (blk_lt HR.out)).trans HR.out
              have hN3 := H3.node p bp nd HPP.out HM.out
              obtain ⟨f, hf, hMp⟩ : ∃ f, nd.ents = some f ∧ MapIs Value.string w3 eb (entF P f) := by
                have := H3.ents p nd HM.out
                have hd := HD.out
                unfold Nd.dir at hd
                cases hq : nd.ents with
                | none => rw [hq] at hd; cases hd
                | some f =>
                  rw [hq] at this
                  obtain ⟨eb', he', hM'⟩ := this
                  rw [HEE.out] at he'
                  injection he' with he'
                  rw [he']
                  exact ⟨f, rfl, hM'⟩
              have hE3 : E p = some eb := HEE.out
              rw [hE3] at hN3
              obtain ⟨wS, hwS⟩ : ∃ wS, wS = (w3.setCell ⟨nb, i, none⟩ (.pointer (some ⟨w2.heap.size, 0, none⟩))).drew := ⟨_, rfl⟩
              have hoffM : ∀ {b : Nat} {c : Array Value} {t : TypeId} {z : Nat × Nat}, w3.heap[b]? = some (.cells c t z) → t ≠ 68 → wS.heap[b]? = some (.cells c t z) := fun {b c t z} hb ht => by
                rw [hwS]
                exact blk_set_other (w := w3) hb (fun e => by
                  rw [e, hR3] at hb
                  injection hb with hb
                  injection hb with _ hb _
                  exact ht hb.symm) _
              have hMS : MapIs Value.string wS eb (entF P f) := hMp.same (by
                rw [hwS]
                obtain ⟨es, c, hm0, _⟩ := hMp
                exact heap_setCell_other w3 ⟨nb, i, none⟩ eb _ fun e => by
                  rw [show eb = nb from e, hR3] at hm0
                  injection hm0 with hm0
                  cases hm0)
              obtain ⟨wE, st, hme, hME, hfE, hst⟩ := hMS.bump klS Tryz.underlying69 zero_node (parL s)
              obtain ⟨wF, hes, hMF, hfF⟩ := hst (.pointer (some ⟨w2.heap.size, 0, none⟩))
              rw [hwS] at hme
              have y0 := cell_blk_some hOX3 (i := 0) rfl
              have y1 := cell_blk_some hOX3 (i := 1) rfl
              have y2 := cell_blk_some H3.top (i := 0) rfl
              have y3 := cell_blk_some hN3 (i := 1) rfl
              have y4 := cell_blk_some hR3 (HCS.out i hi)
              rw [hP] at y4
              have y4 : w3.cell? ⟨nb, i, none⟩ = some (.pointer none) := y4
              have y5 := free_blk (i := i) hR3
              have z0 := cell_blk_some (hoffM hOX3 (by decide)) (i := 0) rfl
              have z1 := cell_blk_some (hoffM hOX3 (by decide)) (i := 1) rfl
              rw [hwS] at z0 z1
              have z0' : (w3.setCell ⟨nb, i, none⟩ (.pointer (some ⟨w2.heap.size, 0, none⟩))).cell? ⟨xb, 0, none⟩ = _ := z0
              have z1' : (w3.setCell ⟨nb, i, none⟩ (.pointer (some ⟨w2.heap.size, 0, none⟩))).cell? ⟨xb, 1, none⟩ = _ := z1
              have HX := Lib.hid hbw; have HN := Lib.hid hnk; have HO := Lib.hid heo; have HH3 := Lib.hid H3; have HFF := Lib.hid hf; have HMF := Lib.hid hMF; have HFE := Lib.hid hfE; have HFF2 := Lib.hid hfF; have HWS := Lib.hid hwS; have HR3 := Lib.hid hR3
              clear hbw hnk heo H3 hOX3 hR3 hN3 hf hMp hE3 hMS hME hMF hst hfE hfF hoffM ct hc1' hwS
              rw [← hw3]
              clear hw3
              go_region_law (fail)
              all_goals
                go_wp2_with fail
                go_ret2
                rw [HRES.out]
                exact ⟨rfl, make_fin (dir := false) (eo := (none)) H2.out HFT.out HBA.out hi2 hi HMN.out HM.out HFF.out HEE.out HR.out HZ.out HCS.out HX.out rfl HN.out HO.out HWS.out HMF.out HFF2.out⟩
            · skip
              have mm := fun w => run_makeMap (P := Tryz.prog) 69 w
              have HMN : Hid (M i = none) := Lib.hid (by
                have hd := H2.out.dom i
                rw [hP] at hd
                cases hq : M i with
                | none => rfl
                | some v => rw [hq] at hd; cases hd)
              have HRES : Hid (makeN M cap s true = ((i : Int), 0, addM M i (freshNd true) p (parL s))) := Lib.hid (by
                rw [HMK.out, HLE.out, show cap + 2 - i = (cap + 1 - i) + 1 by omega]
                show (match (if i < cap then (if (M i).isNone then some i else leastN M cap (cap + 1 - i) (i + 1)) else none) with | none => _ | some i => _) = _
                rw [if_pos hi, if_pos (by rw [HMN.out]; rfl)])
              go_wp2_with fail
              obtain ⟨w3, hw3⟩ : ∃ w3, w3 = ((w2.alloc (.cells #[.int .i64 i, .map (some (w2.heap.size + 1)), .slice none 0 0, .int .i64 1] 71)).alloc (.map #[] 0)) := ⟨_, rfl⟩
              have hbw : Below w2.heap.size w2 w3 := by rw [hw3]; exact ((Below.refl _ w2).alloc (Nat.le_refl _) _).alloc (by simp) _
              have hnk : w3.heap[w2.heap.size]? = some (.cells #[.int .i64 i, .map (some (w2.heap.size + 1)), .slice none 0 0, .int .i64 1] 71 (0, 0)) := by rw [hw3]; exact blk_old (blk_new rfl)
              have heo : NewMap w2 w3 true (some (w2.heap.size + 1)) := by rw [hw3]; exact .inl ⟨rfl, _, rfl, by omega, blk_new (by simp)⟩
              have H3 := H2.out.below hbw
              have hOX3 := (hbw.block _ (blk_lt OX.out)).trans OX.out
              have hR3 := (hbw.block _ (blk_lt HR.out)).trans HR.out
              have hN3 := H3.node p bp nd HPP.out HM.out
              obtain ⟨f, hf, hMp⟩ : ∃ f, nd.ents = some f ∧ MapIs Value.string w3 eb (entF P f) := by
                have := H3.ents p nd HM.out
                have hd := HD.out
                unfold Nd.dir at hd
                cases hq : nd.ents with
                | none => rw [hq] at hd; cases hd
                | some f =>
                  rw [hq] at this
                  obtain ⟨eb', he', hM'⟩ := this
                  rw [HEE.out] at he'
                  injection he' with he'
                  rw [he']
                  exact ⟨f, rfl, hM'⟩
              have hE3 : E p = some eb := HEE.out
              rw [hE3] at hN3
              obtain ⟨wS, hwS⟩ : ∃ wS, wS = (w3.setCell ⟨nb, i, none⟩ (.pointer (some ⟨w2.heap.size, 0, none⟩))).drew := ⟨_, rfl⟩
              have hoffM : ∀ {b : Nat} {c : Array Value} {t : TypeId} {z : Nat × Nat}, w3.heap[b]? = some (.cells c t z) → t ≠ 68 → wS.heap[b]? = some (.cells c t z) := fun {b c t z} hb ht => by
                rw [hwS]
                exact blk_set_other (w := w3) hb (fun e => by
                  rw [e, hR3] at hb
                  injection hb with hb
                  injection hb with _ hb _
                  exact ht hb.symm) _
              have hMS : MapIs Value.string wS eb (entF P f) := hMp.same (by
                rw [hwS]
                obtain ⟨es, c, hm0, _⟩ := hMp
                exact heap_setCell_other w3 ⟨nb, i, none⟩ eb _ fun e => by
                  rw [show eb = nb from e, hR3] at hm0
                  injection hm0 with hm0
                  cases hm0)
              obtain ⟨wE, st, hme, hME, hfE, hst⟩ := hMS.bump klS Tryz.underlying69 zero_node (parL s)
              obtain ⟨wF, hes, hMF, hfF⟩ := hst (.pointer (some ⟨w2.heap.size, 0, none⟩))
              rw [hwS] at hme
              have y0 := cell_blk_some hOX3 (i := 0) rfl
              have y1 := cell_blk_some hOX3 (i := 1) rfl
              have y2 := cell_blk_some H3.top (i := 0) rfl
              have y3 := cell_blk_some hN3 (i := 1) rfl
              have y4 := cell_blk_some hR3 (HCS.out i hi)
              rw [hP] at y4
              have y4 : w3.cell? ⟨nb, i, none⟩ = some (.pointer none) := y4
              have y5 := free_blk (i := i) hR3
              have z0 := cell_blk_some (hoffM hOX3 (by decide)) (i := 0) rfl
              have z1 := cell_blk_some (hoffM hOX3 (by decide)) (i := 1) rfl
              rw [hwS] at z0 z1
              have z0' : (w3.setCell ⟨nb, i, none⟩ (.pointer (some ⟨w2.heap.size, 0, none⟩))).cell? ⟨xb, 0, none⟩ = _ := z0
              have z1' : (w3.setCell ⟨nb, i, none⟩ (.pointer (some ⟨w2.heap.size, 0, none⟩))).cell? ⟨xb, 1, none⟩ = _ := z1
              have HX := Lib.hid hbw; have HN := Lib.hid hnk; have HO := Lib.hid heo; have HH3 := Lib.hid H3; have HFF := Lib.hid hf; have HMF := Lib.hid hMF; have HFE := Lib.hid hfE; have HFF2 := Lib.hid hfF; have HWS := Lib.hid hwS; have HR3 := Lib.hid hR3
              clear hbw hnk heo H3 hOX3 hR3 hN3 hf hMp hE3 hMS hME hMF hst hfE hfF hoffM ct hc1' hwS
              rw [← hw3]
              clear hw3
              go_region_law (fail)
              all_goals
                go_wp2_with fail
                go_ret2
                rw [HRES.out]
                exact ⟨rfl, make_fin (dir := true) (eo := (some (w2.heap.size + 1))) H2.out HFT.out HBA.out hi2 hi HMN.out HM.out HFF.out HEE.out HR.out HZ.out HCS.out HX.out rfl HN.out HO.out HWS.out HMF.out HFF2.out⟩
        · obtain rfl : i = cap := by omega
          have HRES : Hid (makeN M i s dir = (0, 23, M)) := Lib.hid (by
            rw [HMK.out, HLE.out, show i + 2 - i = 1 + 1 by omega]
            show (match (if i < i then (if (M i).isNone then some i else leastN M i 1 (i + 1)) else none) with | none => _ | some i => _) = _
            rw [if_neg (by omega)])
          have HLT := Lib.hid (TLeft.same HT.out HFT.out HBA.out)
          clear HMK HLE HCS HZ HR
          go_wp2_with fail
          go_ret2
          rw [HRES.out]
          exact ⟨rfl, HLT.out⟩
  · have HRES : Hid (makeN M cap s dir = (0, freshC M s dir, M)) := Lib.hid (by unfold makeN; rw [if_pos hc])
    have hce : (freshC M s dir != 0) = true := by simp [hc]
    generalize freshC M s dir = fc at *
    clear h hc
    go_enter Tryz.func41, Tryz.ntmps41
    go_wp2_with fail
    refine HF.out.mono ?_
    rintro e w1 ⟨⟨pa, hpv, rfl⟩, hb1⟩
    obtain ⟨po, pl, pb, pn, rfl⟩ := place_pa hpv
    have HLT := Lib.hid (TLeft.same HT.out HFT.out (below_call hb1 (show Below w1.heap.size w1 (w1.alloc (.cells #[.pointer po, .string pl, .bool pb, .int .i64 pn] 102)) from (Below.refl _ w1).alloc (Nat.le_refl _) _) (Nat.le_refl _)))
    clear hb1 hpv HF
    unfold placeA
    go_wp2_with fail
    go_ret2
    rw [HRES.out]
    exact ⟨rfl, HLT.out⟩
end
end Go.Proofs.YtoofcnehoffllaaGreat

namespace Go.Proofs.YtoofcnehoffllaaGreat
open Go.RowKit

/-- A directory p with other entries. -/
def setE (M : TM) (p : Nat) (f : ByteArray → Option Nat) : TM := fun x => if x = p then (M p).map fun q => { q with ents := some f } else M x
/-- A node i with other links, and data. -/
def setN (M : TM) (i : Nat) (links : Int) (data : List Int) : TM := fun x => if x = i then (M i).map fun q => { q with links := links, data := data } else M x
/-- A node i is gone. -/
def killM (M : TM) (i : Nat) : TM := fun x => if x = i then none else M x
def updV' (V : Nat → Value) (i : Nat) (v : Value) : Nat → Value := fun x => if x = i then v else V x
section
variable {w w' : World} {tb nb cap : Nat} {P E : Nat → Option Nat} {V : Nat → Value} {M : TM}
theorem setE_p {p : Nat} {f : ByteArray → Option Nat} {q : Nd} (hq : M p = some q) : setE M p f p = some { q with ents := some f } := by
  unfold setE; rw [if_pos rfl, hq]; rfl
theorem setE_o {p x : Nat} {f : ByteArray → Option Nat} (h : x ≠ p) : setE M p f x = M x := if_neg h
theorem setN_i {i : Nat} {l : Int} {d : List Int} {q : Nd} (hq : M i = some q) : setN M i l d i = some { q with links := l, data := d } := by
  unfold setN; rw [if_pos rfl, hq]; rfl
theorem setN_o {i x : Nat} {l : Int} {d : List Int} (h : x ≠ i) : setN M i l d x = M x := if_neg h
theorem entN_of {i : Nat} {nd : Nd} {s : ByteArray} (hm : M i = some nd) : entN M i s = match nd.ents with | some f => f s | none => none := by unfold entN; rw [hm]; rfl
theorem entN_setE {p x : Nat} {f g : ByteArray → Option Nat} {q : Nd} {s : ByteArray} (hq : M p = some q) (_hg : q.ents = some g) : entN (setE M p f) x s = if x = p then f s else entN M x s := by
  by_cases e : x = p
  · rw [if_pos e, e, entN_of (setE_p hq)]
  · rw [if_neg e]
    unfold entN
    rw [setE_o e]
theorem entN_setN {i x : Nat} {l : Int} {d : List Int} {s : ByteArray} : entN (setN M i l d) x s = entN M x s := by
  unfold entN setN
  by_cases e : x = i
  · rw [if_pos e, e]
    cases M i <;> rfl
  · rw [if_neg e]
theorem isDir_setE {p x : Nat} {f g : ByteArray → Option Nat} {q : Nd} (hq : M p = some q) (hg : q.ents = some g) : isDir (setE M p f) x = isDir M x := by
  unfold isDir
  by_cases e : x = p
  · rw [e, setE_p hq, hq]; show true = q.ents.isSome; rw [hg]; rfl
  · rw [setE_o e]
theorem isDir_setN {i x : Nat} {l : Int} {d : List Int} : isDir (setN M i l d) x = isDir M x := by
  unfold isDir setN
  by_cases e : x = i
  · rw [if_pos e, e]
    cases M i <;> rfl
  · rw [if_neg e]
theorem some_setE {p x : Nat} {f : ByteArray → Option Nat} {q : Nd} (hq : M p = some q) : (setE M p f x).isSome = (M x).isSome := by
  by_cases e : x = p
  · rw [e, setE_p hq, hq]; rfl
  · rw [setE_o e]
theorem some_setN {i x : Nat} {l : Int} {d : List Int} : (setN M i l d x).isSome = (M x).isSome := by
  unfold setN
  by_cases e : x = i
  · rw [if_pos e, e]
    cases M i <;> rfl
  · rw [if_neg e]
theorem low_some {cap : Nat} (h : TOk M cap) {x : Nat} (hx : (M x).isSome = true) : 2 ≤ x ∧ x < cap := by
  obtain ⟨nd, hn⟩ := Option.isSome_iff_exists.1 hx
  exact h.low x nd hn
theorem setE_ok (h : TOk M cap) {p : Nat} {f g : ByteArray → Option Nat} {q : Nd} (hq : M p = some q) (hg : q.ents = some g) (hv : ∀ s j, f s = some j → (M j).isSome = true) : TOk (setE M p f) cap := by
  refine ⟨(isDir_setE hq hg).trans h.root, fun i nd hi => low_some h (x := i) (by rw [← some_setE (f := f) hq, hi]; rfl), fun i s j he => ?_⟩
  rw [some_setE hq]
  rw [entN_setE hq hg] at he
  by_cases e : i = p
  · rw [if_pos e] at he; exact hv s j he
  · rw [if_neg e] at he; exact h.ent i s j he
theorem setN_ok (h : TOk M cap) {i : Nat} {l : Int} {d : List Int} : TOk (setN M i l d) cap := by
  refine ⟨isDir_setN.trans h.root, fun x nd hi => low_some h (x := x) (by rw [← some_setN (i := i) (l := l) (d := d), hi]; rfl), fun x s j he => ?_⟩
  rw [some_setN]
  rw [entN_setN] at he
  exact h.ent x s j he
theorem entN_kill {i x : Nat} {s : ByteArray} : entN (killM M i) x s = if x = i then none else entN M x s := by
  unfold entN killM
  by_cases e : x = i
  · rw [if_pos e, if_pos e]
  · rw [if_neg e, if_neg e]
theorem kill_ok (h : TOk M cap) {i : Nat} (hi : i ≠ 2) (hno : ∀ p s, p ≠ i → entN M p s ≠ some i) : TOk (killM M i) cap := by
  refine ⟨?_, fun x nd hx => ?_, fun x s j he => ?_⟩
  · have := h.root
    unfold isDir killM at *
    rw [if_neg (fun e => hi e.symm)]; exact this
  · unfold killM at hx
    split at hx
    · cases hx
    · exact h.low x nd hx
  · rw [entN_kill] at he
    by_cases e : x = i
    · rw [if_pos e] at he; cases he
    · rw [if_neg e] at he
      have hj := h.ent x s j he
      unfold killM
      rw [if_neg (fun e' => hno x s e (by rw [he, e']))]
      exact hj
theorem TIn.off (h : TIn w tb nb cap P E V M) {x : Nat} {b : Nat} {nd : Nd} (hp : P x = some b) (hm : M x = some nd) {S : Nat → Prop} (hf : Fr S w w') (hs : ¬ S b) : w'.heap[b]? = some (.cells #[.int .i64 x, .map (E x), V x, .int .i64 nd.links] 71 (0, 0)) :=
  (hf.block b (blk_lt (h.node x b nd hp hm)) hs).trans (h.node x b nd hp hm)
theorem TIn.mapset (h : TIn w tb nb cap P E V M) {p pe : Nat} {q : Nd} {f g : ByteArray → Option Nat} (hq : M p = some q) (hg : q.ents = some g) (hpe : E p = some pe)
    (hmap : MapIs Value.string w' pe (entF P f)) (hv : ∀ s j, f s = some j → (M j).isSome = true) (hfr : Fr (fun x => x = pe) w w') : TIn w' tb nb cap P E V (setE M p f) := by
  obtain ⟨es, c, hpm⟩ := h.elt hpe
  obtain ⟨cs, hr, hz, hcs⟩ := h.row
  have noc : ∀ {b : Nat} {c : Array Value} {t : TypeId} {z : Nat × Nat}, w.heap[b]? = some (.cells c t z) → b ≠ pe := fun hb e => by rw [e, hpm] at hb; injection hb with hb; cases hb
  have oc : ∀ {b : Nat} {c : Array Value} {t : TypeId} {z : Nat × Nat}, w.heap[b]? = some (.cells c t z) → w'.heap[b]? = some (.cells c t z) := fun hb => (hfr.block _ (blk_lt hb) (noc hb)).trans hb
  have hdat : ∀ {x : Nat} {nd : Nd}, M x = some nd → w'.ownsRow 0 5 1 (V x) nd.data.length (u8s nd.data) := fun {x nd} hm => own_frame (h.data x nd hm) hfr fun g' hg' => by
    rcases (h.data x nd hm).2 with hh | ⟨g2, cap', cur, e, h1, hgg, hr'⟩
    · rw [hh.1] at hg'; cases hg'
    · rw [e] at hg'; injection hg' with hg'; rw [← hg']; exact noc hgg
  refine ⟨oc h.top, ⟨cs, oc hr, hz, hcs⟩, fun i => by rw [some_setE hq]; exact h.dom i, fun i b nd hp hm => ?_, fun i nd hm => ?_, fun i nd hm => ?_, h.pin, h.ein, h.vin, fun i hm => h.eno i ?_, setE_ok h.ok hq hg hv, h.capB⟩
  · by_cases e : i = p
    · rw [e] at hp hm ⊢
      rw [setE_p hq] at hm
      injection hm with hm
      subst hm
      exact oc (h.node p b q hp hq)
    · rw [setE_o e] at hm
      exact oc (h.node i b nd hp hm)
  · by_cases e : i = p
    · rw [e] at hm ⊢
      rw [setE_p hq] at hm
      injection hm with hm
      subst hm
      have := hdat hq
      exact this
    · rw [setE_o e] at hm
      exact hdat hm
  · by_cases e : i = p
    · rw [e] at hm ⊢
      rw [setE_p hq] at hm
      injection hm with hm
      subst hm
      exact ⟨pe, hpe, hmap⟩
    · rw [setE_o e] at hm
      have := h.ents i nd hm
      cases hne : nd.ents with
      | none => rw [hne] at this; exact this
      | some g' =>
        rw [hne] at this
        obtain ⟨eb, he, hM⟩ := this
        exact ⟨eb, he, hM.fr hfr fun e' => e (h.ein i p pe (by rw [he]; exact congrArg some e') hpe)⟩
  · have := some_setE (f := f) (x := i) hq
    rw [hm] at this
    cases hq2 : M i with
    | none => rfl
    | some v => rw [hq2] at this; cases this
theorem TIn.nodeset (h : TIn w tb nb cap P E V M) {i b : Nat} {nd : Nd} {v : Value} {l : Int} {d : List Int} (hm : M i = some nd) (hp : P i = some b)
    (hnode : w'.heap[b]? = some (.cells #[.int .i64 i, .map (E i), v, .int .i64 l] 71 (0, 0))) (hown : w'.ownsRow 0 5 1 v d.length (u8s d))
    (hvin : ∀ j c, v.ownBlock = some c → (V j).ownBlock = some c → j = i) (hfr : Fr (fun x => x = b ∨ (V i).ownBlock = some x) w w') : TIn w' tb nb cap P E (updV' V i v) (setN M i l d) := by
  obtain ⟨cs, hr, hz, hcs⟩ := h.row
  have hb := h.node i b nd hp hm
  have noV : ∀ {x : Nat} {c : Array Value} {t : TypeId} {z : Nat × Nat}, w.heap[x]? = some (.cells c t z) → t ≠ 5 → (V i).ownBlock ≠ some x := fun {x c t z} hx ht => own_off (h.data i nd hm) hx ht
  have oc : ∀ {x : Nat} {c : Array Value} {t : TypeId} {z : Nat × Nat}, w.heap[x]? = some (.cells c t z) → x ≠ b → t ≠ 5 → w'.heap[x]? = some (.cells c t z) := fun hx hn ht => (hfr.block _ (blk_lt hx) (fun e => e.elim hn (noV hx ht))).trans hx
  have hne : ∀ {x : Nat} {c : Array Value} {t : TypeId} {z : Nat × Nat}, w.heap[x]? = some (.cells c t z) → t ≠ 71 → x ≠ b := fun hx ht e => by rw [e, hb] at hx; injection hx with hx; injection hx with _ hx _; exact ht hx.symm
  refine ⟨oc h.top (hne h.top (by decide)) (by decide), ⟨cs, oc hr (hne hr (by decide)) (by decide), hz, hcs⟩, fun x => by rw [some_setN]; exact h.dom x, fun x b' nd' hp' hm' => ?_, fun x nd' hm' => ?_, fun x nd' hm' => ?_, h.pin, h.ein, fun x y c h1 h2 => ?_, fun x hx => ?_, setN_ok h.ok, h.capB⟩
  · by_cases e : x = i
    · rw [e] at hp' hm' ⊢
      rw [setN_i hm] at hm'
      injection hm' with hm'
      rw [hp] at hp'
      injection hp' with hp'
      subst hm' hp'
      unfold updV'
      rw [if_pos rfl]
      exact hnode
    · rw [setN_o e] at hm'
      unfold updV'
      rw [if_neg e]
      exact oc (h.node x b' nd' hp' hm') (fun e' => e (h.pin x i b (by rw [hp', e']) hp)) (by decide)
  · by_cases e : x = i
    · rw [e] at hm' ⊢
      rw [setN_i hm] at hm'
      injection hm' with hm'
      subst hm'
      unfold updV'
      rw [if_pos rfl]
      exact hown
    · rw [setN_o e] at hm'
      unfold updV'
      rw [if_neg e]
      refine own_frame (h.data x nd' hm') hfr fun g hg => ?_
      rintro (e' | e')
      · rcases (h.data x nd' hm').2 with hh | ⟨g2, cap', cur, e2, h1, hgg, hr'⟩
        · rw [hh.1] at hg; cases hg
        · rw [e2] at hg
          injection hg with hg
          have hg : g2 = g := hg
          rw [hg, e', hb] at hgg
          injection hgg with hgg
          injection hgg with _ hgg _
          exact absurd hgg (by decide)
      · exact e (h.vin x i g hg e')
  · have key : ∀ {nd0 : Nd}, M x = some nd0 → match nd0.ents with
        | none => E x = none
        | some f => ∃ eb, E x = some eb ∧ MapIs Value.string w' eb (entF P f) := fun {nd0} h0 => by
      have := h.ents x nd0 h0
      cases hne' : nd0.ents with
      | none => rw [hne'] at this; exact this
      | some g =>
        rw [hne'] at this
        obtain ⟨eb, he, hM⟩ := this
        refine ⟨eb, he, hM.fr hfr ?_⟩
        obtain ⟨es, c, hM0⟩ := h.elt he
        rintro (e' | e')
        · rw [e', hb] at hM0; injection hM0 with hM0; cases hM0
        · exact own_off_map (h.data i nd hm) hM0 e'
    by_cases e : x = i
    · rw [e] at hm'
      rw [setN_i hm] at hm'
      injection hm' with hm'
      subst hm'
      have := key (nd0 := nd) (by rw [e]; exact hm)
      exact this
    · rw [setN_o e] at hm'
      exact key hm'
  · unfold updV' at h1 h2
    by_cases e1 : x = i
    · by_cases e2 : y = i
      · rw [e1, e2]
      · rw [if_pos e1] at h1
        rw [if_neg e2] at h2
        rw [e1]; exact (hvin y c h1 h2).symm
    · by_cases e2 : y = i
      · rw [if_neg e1] at h1
        rw [if_pos e2] at h2
        rw [e2]; exact hvin x c h2 h1
      · rw [if_neg e1] at h1
        rw [if_neg e2] at h2
        exact h.vin x y c h1 h2
  · have h0 : M x = none := by
      have := some_setN (M := M) (i := i) (x := x) (l := l) (d := d)
      rw [hx] at this
      cases hq2 : M x with
      | none => rfl
      | some v => rw [hq2] at this; cases this
    unfold updV'
    rw [if_neg (fun e => by rw [e, hm] at h0; cases h0)]
    exact h.eno x h0
theorem TIn.kill (h : TIn w tb nb cap P E V M) {i : Nat} {nd : Nd} (hm : M i = some nd) (hi : i ≠ 2) (hno : ∀ p s, p ≠ i → entN M p s ≠ some i)
    (hrow : ∃ cs', w'.heap[nb]? = some (.cells cs' 68 (0, 0)) ∧ cs'.size = cap ∧ ∀ j, j < cap → cs'[j]? = some (nptr (updO P i none j))) (hfr : Fr (fun x => x = nb) w w') :
    TIn w' tb nb cap (updO P i none) (updO E i none) (updV' V i (.slice none 0 0)) (killM M i) := by
  have _ := hm
  obtain ⟨cs, hr, hz, hcs⟩ := h.row
  have oc : ∀ {x : Nat} {c : Array Value} {t : TypeId} {z : Nat × Nat}, w.heap[x]? = some (.cells c t z) → t ≠ 68 → w'.heap[x]? = some (.cells c t z) := fun hx ht => (hfr.block _ (blk_lt hx) (fun e => by
    rw [e, hr] at hx; injection hx with hx; injection hx with _ hx _; exact ht hx.symm)).trans hx
  have mo : ∀ {x : Nat} {nd' : Nd}, killM M i x = some nd' → x ≠ i ∧ M x = some nd' := fun {x nd'} hx => by
    unfold killM at hx
    split at hx
    · cases hx
    · rename_i e; exact ⟨e, hx⟩
  have po : ∀ {Q : Nat → Option Nat} {x b : Nat}, updO Q i none x = some b → x ≠ i ∧ Q x = some b := fun {Q x b} hx => by
    by_cases e : x = i
    · rw [e, updO_self] at hx; cases hx
    · rw [updO_other e] at hx; exact ⟨e, hx⟩
  have vo : ∀ {x b : Nat}, (updV' V i (.slice none 0 0) x).ownBlock = some b → (V x).ownBlock = some b := fun {x b} hx => by
    unfold updV' at hx
    split at hx
    · cases hx
    · exact hx
  refine ⟨oc h.top (by decide), hrow, fun x => ?_, fun x b nd' hp hm' => ?_, fun x nd' hm' => ?_, fun x nd' hm' => ?_, fun x y b h1 h2 => h.pin x y b (po h1).2 (po h2).2, fun x y b h1 h2 => h.ein x y b (po h1).2 (po h2).2, fun x y b h1 h2 => h.vin x y b (vo h1) (vo h2), fun x hx => ?_, kill_ok h.ok hi hno, h.capB⟩
  · by_cases e : x = i
    · rw [e, updO_self]; unfold killM; rw [if_pos rfl]; rfl
    · rw [updO_other e]; unfold killM; rw [if_neg e]; exact h.dom x
  · obtain ⟨e, hm2⟩ := mo hm'
    rw [updO_other e]
    unfold updV'
    rw [if_neg e]
    exact oc (h.node x b nd' (po hp).2 hm2) (by decide)
  · obtain ⟨e, hm2⟩ := mo hm'
    unfold updV'
    rw [if_neg e]
    refine own_frame (h.data x nd' hm2) hfr fun g hg => ?_
    intro e'
    rw [e'] at hg
    exact own_off (h.data x nd' hm2) hr (by decide) hg
  · obtain ⟨e, hm2⟩ := mo hm'
    rw [updO_other e]
    have := h.ents x nd' hm2
    cases hne : nd'.ents with
    | none => rw [hne] at this; exact this
    | some g =>
      rw [hne] at this
      obtain ⟨eb, he, hM⟩ := this
      refine ⟨eb, he, ?_⟩
      have hef : entF (updO P i none) g = entF P g := by
        funext s
        unfold entF
        cases hgs : g s with
        | none => rfl
        | some j =>
          have hj : j ≠ i := fun e' => hno x s e (by rw [entN_of hm2, hne, ← e']; exact hgs)
          show some (nptr (updO P i none j)) = some (nptr (P j))
          rw [updO_other hj]
      rw [hef]
      obtain ⟨es, c, hM0⟩ := h.elt he
      exact hM.fr hfr fun e' => by rw [e', hr] at hM0; injection hM0 with hM0; cases hM0
  · by_cases e : x = i
    · rw [e, updO_self]; unfold updV'; rw [if_pos rfl]; exact ⟨rfl, rfl⟩
    · rw [updO_other e]
      unfold updV'
      rw [if_neg e]
      unfold killM at hx
      rw [if_neg e] at hx
      exact h.eno x hx
end
end Go.Proofs.YtoofcnehoffllaaGreat

namespace Go.Proofs.YtoofcnehoffllaaGreat
open Go.RowKit

/-- A name of a node is gone; with the last one the node. -/
def dropM (M : TM) (p : Nat) (f : ByteArray → Option Nat) (s : ByteArray) (i : Nat) (nd : Nd) : TM :=
  if nd.links - 1 = 0 then killM (setN (setE M p (updE f s none)) i (nd.links - 1) nd.data) i else setN (setE M p (updE f s none)) i (nd.links - 1) nd.data
section
variable {w w' : World} {tb nb cap : Nat} {P E : Nat → Option Nat} {V : Nat → Value} {M : TM}
theorem entF_del {f : ByteArray → Option Nat} {s : ByteArray} : entF P (updE f s none) = delK (entF P f) s := by
  funext x
  by_cases e : x = s
  · subst e
    rw [delK_self]
    unfold entF updE
    rw [if_pos rfl]; rfl
  · rw [delK_other e]
    unfold entF updE
    rw [if_neg e]
set_option maxHeartbeats 2000000 in
set_option maxRecDepth 100000 in
theorem drop_any {F : Nat → Prop} {p bp i : Nat} {q nd : Nd} {f : ByteArray → Option Nat} {s : ByteArray} {ob : Bool} {n : Int} (h : TIn w tb nb cap P E V M) (hFt : ∀ b, TFoot tb nb P E V b → F b)
    (hq : M p = some q) (hf : q.ents = some f) (hp : P p = some bp) (hs : f s = some i) (hm : M i = some nd) (hip : i ≠ p) (hi2 : i ≠ 2) (hl : 1 ≤ nd.links ∧ nd.links ≤ 100)
    (hno : nd.links = 1 → ∀ r t, r ≠ i → entN M r t = some i → r = p ∧ t = s) :
    Calls Tryz.prog 76 #[.pointer (some ⟨tb, 0, none⟩), placeA (.pointer (some ⟨bp, 0, none⟩)) s ob n] w fun e w' => e = .returned (.tuple #[]) ∧ TLeft w w' tb cap F (dropM M p f s i nd) := by
  have hbp := h.node p bp q hp hq
  obtain ⟨pe, hE, hMp⟩ : ∃ pe, E p = some pe ∧ MapIs Value.string w pe (entF P f) := by
    have := h.ents p q hq
    rw [hf] at this; exact this
  obtain ⟨b, hb, hbn⟩ := h.at_ hm
  rw [hE] at hbp
  have c1 := cell_blk_some hbp (i := 1) rfl
  have hlk := hMp.look1 klS Tryz.underlying69 zero_node s
  clear hlk c1
  have hsv : (entF P f s).getD (.pointer none) = .pointer (some ⟨b, 0, none⟩) := by unfold entF; rw [hs]; show nptr (P i) = _; rw [hb]; rfl
  have HH := Lib.hid h; have HFT := Lib.hid hFt
  unfold placeA
  obtain ⟨w0, hw0⟩ : ∃ w0, w0 = w.alloc (.cells #[.pointer (some ⟨bp, 0, none⟩), .string s, .bool ob, .int .i64 n] 102) := ⟨_, rfl⟩
  have hB0 : Below w.heap.size w w0 := by rw [hw0]; exact (Below.refl _ w).alloc (Nat.le_refl _) _
  have hx : w0.heap[w.heap.size]? = some (.cells #[.pointer (some ⟨bp, 0, none⟩), .string s, .bool ob, .int .i64 n] 102 (0, 0)) := by rw [hw0]; exact blk_new rfl
  have h0 := h.below hB0
  have hMp0 : MapIs Value.string w0 pe (entF P f) := hMp.same (hB0.block _ hMp.lt)
  have hlk : ∀ n, (Instr.lookup 69 (.map (some pe)) (.string s) false).run Tryz.prog (w0.drewN n) = .ok (.pointer (some ⟨b, 0, none⟩)) (w0.drewN n) := fun n => by
    have := (hMp0.same (w' := w0.drewN n) rfl).look1 klS Tryz.underlying69 zero_node s
    rw [hsv] at this; exact this
  have c1 := cell_blk_some ((hB0.block _ (blk_lt hbp)).trans hbp) (i := 1) rfl
  have x0 := cell_blk_some hx (i := 0) rfl
  have x1 := cell_blk_some hx (i := 1) rfl
  have HB0 := Lib.hid hB0; have HX := Lib.hid hx; have H0 := Lib.hid h0; have HM0 := Lib.hid hMp0; have HBN := Lib.hid hbn; have HBP := Lib.hid hbp
  have HNO := Lib.hid hno
  have HQ := Lib.hid hq; have HF := Lib.hid hf; have HP := Lib.hid hp; have HS := Lib.hid hs; have HM := Lib.hid hm; have HE := Lib.hid hE; have HB := Lib.hid hb
  clear h hFt hB0 hx h0 hMp0 hMp hbn hbp hno hq hf hp hs hm hE hb hsv
  go_enter Tryz.func76, Tryz.ntmps76
  go_wp2_with fail
  try rw [← hw0]
  clear hw0
  generalize hxb : w.heap.size = xb at *
  have HXB := Lib.hid hxb
  clear hxb
  go_quiet (fail)
  generalize hw1 : w0.drewN _ = w1
  have hb01 : Below w0.heap.size w0 w1 := by rw [← hw1]; exact below_drewN (Below.refl _ w0) _
  have FR1 := Lib.hid ((Fr.below (S := fun _ => False) (by rw [HXB.out]; exact HB0.out)).trans (Fr.below hb01))
  have h1 := H0.out.below hb01
  have hx1 := (hb01.block _ (blk_lt HX.out)).trans HX.out
  have hMp1 : MapIs Value.string w1 pe (entF P f) := HM0.out.same (hb01.block _ HM0.out.lt)
  have hbp1 := h1.node p bp q HP.out HQ.out
  rw [HE.out] at hbp1
  clear hw1 c1 x0 x1 hlk
  obtain ⟨w2, hdel, hM2, hf2⟩ := (hMp1.same (w' := w1.drew) rfl).del klS Tryz.underlying69 s
  have c1 := cell_blk_some hbp1 (i := 1) rfl
  have x0 := cell_blk_some hx1 (i := 0) rfl
  have x1 := cell_blk_some hx1 (i := 1) rfl
  have hf12 : Fr (fun x => x = pe) w1 w2 := ((Fr.refl _ w1).drew).trans hf2
  rw [← entF_del] at hM2
  have h2 : TIn w2 tb nb cap P E V (setE M p (updE f s none)) := h1.mapset HQ.out HF.out HE.out hM2 (fun t j ht => by
    unfold updE at ht
    split at ht
    · cases ht
    · exact h1.ok.ent p t j (by rw [entN_of HQ.out, HF.out]; exact ht)) hf12
  have hm2 : setE M p (updE f s none) i = some nd := by rw [setE_o hip]; exact HM.out
  have hb2 := h2.node i b nd HB.out hm2
  have d3 := cell_blk_some hb2 (i := 3) rfl
  have g3 := free_blk (i := 3) hb2
  have hb3 := blk_set (i := 3) hb2 (.int .i64 (nd.links - 1))
  have hf3 : Fr (fun x => x = b) w2 (w2.setCell ⟨b, 3, none⟩ (.int .i64 (nd.links - 1))) := (Fr.refl (fun x => x = b) w2).setCell ⟨b, 3, none⟩ rfl _
  have hF3 : Fr (fun x => x = pe ∨ x = b) w (w2.setCell ⟨b, 3, none⟩ (.int .i64 (nd.links - 1))) := ((FR1.out.tell fun x hx => hx.elim).trans (hf12.tell fun x hx => .inl hx)).trans (hf3.tell fun x hx => .inr hx)
  have h3 : TIn (w2.setCell ⟨b, 3, none⟩ (.int .i64 (nd.links - 1))) tb nb cap P E (updV' V i (V i)) (setN (setE M p (updE f s none)) i (nd.links - 1) nd.data) := h2.nodeset hm2 HB.out hb3
    (own_frame (h2.data i nd hm2) hf3 fun g hg e => by
      rcases (h2.data i nd hm2).2 with hh | ⟨g2, cap', cur, e2, h1, hgg, hr'⟩
      · rw [hh.1] at hg; cases hg
      · rw [e2] at hg
        injection hg with hg
        have hg : g2 = g := hg
        rw [hg, e, hb2] at hgg
        injection hgg with hgg
        injection hgg with _ hgg _
        exact absurd hgg (by decide)) (fun j c h1 h2' => h2.vin j i c h2' h1) (hf3.tell fun x hx => .inl hx)
  obtain ⟨cs, hr3, hz3, hcs3⟩ := h3.row
  have hic := (h3.ok.low i _ (setN_i hm2)).2
  have e0 := cell_blk_some h3.top (i := 0) rfl
  have e1 := cell_blk_some hb3 (i := 0) rfl
  have e3 := cell_blk_some hb3 (i := 3) rfl
  have e4 := cell_blk_some hr3 (hcs3 i hic)
  have e5 := free_blk (i := i) hr3
  have H3 := Lib.hid h3; have HR3 := Lib.hid hr3; have HZ3 := Lib.hid hz3; have HCS3 := Lib.hid hcs3; have HF3 := Lib.hid hF3; have HM2 := Lib.hid hm2
  clear h1 hx1 hMp1 hM2 hf2 hbp1 H0 HX HM0 HB0 hb01 hf12 h2 hb2 hb3 hf3 h3 hr3 hz3 hcs3 hF3 hm2
  obtain ⟨hl1, hl2⟩ := hl
  generalize hL : nd.links = L at *
  have HL := Lib.hid hL
  clear hL
  go_wp2_with fail
  go_still_tail 7, (by kernel_rfl)
  change wpList _ _ _ _ _ w1.drew
  by_cases hL1 : L = 1
  · subst hL1
    have hz : (1 : Int) - 1 = 0 := rfl
    rw [hz] at H3 HR3 HF3 e0 e1 e3 e4 e5
    go_wp2_with fail
    obtain ⟨w3, hw3⟩ : ∃ w3, w3 = w2.setCell ⟨b, 3, none⟩ (.int .i64 0) := ⟨_, rfl⟩
    rw [← hw3] at H3 HR3 HF3 e0 e1 e3 e4 e5 ⊢
    clear hw3 d3 g3 hdel c1 x0 x1
    rw [HB.out] at e4
    have e4' : w3.cell? ⟨nb, i, none⟩ = some (.pointer (some ⟨b, 0, none⟩)) := e4
    have b0 : (0 : Int) ≤ (i : Int) := by omega
    have b1 : (i : Int) < (cap : Int) := by omega
    clear e4
    go_region_law (fail)
    all_goals
      go_wp2_with fail
      go_end0
      refine ⟨rfl, ?_⟩
      unfold dropM
      rw [HL.out, show (1 : Int) - 1 = 0 from rfl, if_pos rfl]
      have hf4 : Fr (fun x => x = nb) w3 (w3.setCell ⟨nb, i, none⟩ (.pointer none)).drew := ((Fr.refl (fun x => x = nb) w3).setCell ⟨nb, i, none⟩ rfl _).drew
      have hk := H3.out.kill (w' := (w3.setCell ⟨nb, i, none⟩ (.pointer none)).drew) (setN_i HM2.out) hi2 (fun r t hr ht => by
          rw [entN_setN, entN_setE HQ.out HF.out] at ht
          by_cases e : r = p
          · rw [if_pos e] at ht
            unfold updE at ht
            split at ht
            · cases ht
            · rename_i ne
              exact ne (HNO.out (by trivial) p t (fun e' => hip e'.symm) (by rw [entN_of HQ.out, HF.out]; exact ht)).2
          · rw [if_neg e] at ht
            exact e (HNO.out (by trivial) r t hr ht).1)
        ⟨_, blk_set (w := w3) HR3.out _, by rw [Array.size_setIfInBounds]; exact HZ3.out, fun j hj => by
          rw [Array.getElem?_setIfInBounds]
          by_cases e : i = j
          · rw [if_pos e, if_pos (by rw [HZ3.out]; omega), e, updO_self]; rfl
          · rw [if_neg e, updO_other (fun e' => e e'.symm)]; exact HCS3.out j hj⟩ hf4
      refine ⟨⟨nb, _, _, _, hk, fun x hx => .inl (HFT.out x ?_)⟩, ?_⟩
      · have po : ∀ {Q : Nat → Option Nat} {x b : Nat}, updO Q i none x = some b → Q x = some b := fun {Q x b} hx => by
          by_cases e : x = i
          · rw [e, updO_self] at hx; cases hx
          · rw [updO_other e] at hx; exact hx
        rcases hx with h | h | ⟨j, h⟩ | ⟨j, h⟩ | ⟨j, h⟩
        · exact .inl h
        · exact .inr (.inl h)
        · exact .inr (.inr (.inl ⟨j, po h⟩))
        · exact .inr (.inr (.inr (.inl ⟨j, po h⟩)))
        · refine .inr (.inr (.inr (.inr ⟨j, ?_⟩)))
          unfold updV' at h
          split at h
          · cases h
          · first
              | exact h
              | (split at h
                 · rename_i e; rw [e]; exact h
                 · exact h)
      · refine (HF3.out.tell fun x hx => ?_).trans (hf4.tell fun x hx => ?_)
        · rcases hx with h | h
          · exact HFT.out x (.inr (.inr (.inr (.inl ⟨p, by rw [h]; exact HE.out⟩))))
          · exact HFT.out x (.inr (.inr (.inl ⟨i, by rw [h]; exact HB.out⟩)))
        · exact HFT.out x (.inr (.inl hx))
  · have hne : L - 1 ≠ 0 := by omega
    have hne' : (L - 1 == 0) = false := by simpa using hne
    go_wp2_with fail
    go_end0
    refine ⟨rfl, ?_⟩
    unfold dropM
    rw [HL.out, if_neg hne]
    refine ⟨⟨nb, P, E, _, H3.out, fun x hx => .inl (HFT.out x ?_)⟩, HF3.out.tell fun x hx => ?_⟩
    · rcases hx with h | h | h | h | ⟨j, h⟩
      · exact .inl h
      · exact .inr (.inl h)
      · exact .inr (.inr (.inl h))
      · exact .inr (.inr (.inr (.inl h)))
      · refine .inr (.inr (.inr (.inr ⟨j, ?_⟩)))
        unfold updV' at h
        split at h
        · rename_i e; rw [e]; exact h
        · exact h
    · rcases hx with h | h
      · exact HFT.out x (.inr (.inr (.inr (.inl ⟨p, by rw [h]; exact HE.out⟩))))
      · exact HFT.out x (.inr (.inr (.inl ⟨i, by rw [h]; exact HB.out⟩)))
end
end Go.Proofs.YtoofcnehoffllaaGreat

namespace Go.Proofs.YtoofcnehoffllaaGreat
open Go.RowKit

section
variable {α : Type} {ke : α → Value} {Q : Program} {K e t : TypeId} {d : TypeDesc} {w w' : World} {mb : Nat} {f : α → Option Value}
theorem MapIs.len0 (h : MapIs ke w mb f) (_L : KL Q K d ke) (ht : Q.underlying t = some (.map K e)) :
    ∃ n : Nat, (∀ ty, (Builtin.len_ #[t] ty #[.map (some mb)]).run Q w = .ok (.int .i64 n) w) ∧ (n = 0 ↔ ∀ k, f k = none) := by
  obtain ⟨es, c, hm, _, h1, h2⟩ := h
  refine ⟨es.size, fun ty => by simp [Builtin.len_, run_underlying ht, MapKept.run_getObj_map hm, goInt], fun h0 k => ?_, fun h0 => ?_⟩
  · cases hk : f k with
    | none => rfl
    | some v =>
      obtain ⟨y, hy, _⟩ := h2 k v hk
      have : 0 < es.toList.length := List.length_pos_of_mem hy
      rw [Array.length_toList] at this
      omega
  · rcases Nat.eq_zero_or_pos es.size with h | h
    · exact h
    · have hy : es[0] ∈ es.toList := by simp
      obtain ⟨k, _, hk⟩ := h1 _ hy
      rw [h0 k] at hk; cases hk
end
open Classical in
/-- A directory has entries. -/
noncomputable def hasN (M : TM) (i : Nat) : Bool := decide (∃ s j, entN M i s = some j)
/-- What is wrong with a node that shall be gone, as a directory or as a file. -/
noncomputable def wrongN (M : TM) (i : Nat) (dir : Bool) : Int := if dir then (if isDir M i then (if hasN M i then 39 else 0) else 20) else if isDir M i then 21 else 0
section
variable {w : World} {tb nb cap : Nat} {P E : Nat → Option Nat} {V : Nat → Value} {M : TM}
set_option maxRecDepth 100000 in
theorem notFile_any (h : TIn w tb nb cap P E V M) {i : Nat} (hi : (M i).isSome = true) :
    Calls Tryz.prog 46 #[nptr (P i)] w fun e w' => e = .returned (.int .i64 (wrongN M i false)) ∧ w' = w := by
  have HD := Lib.hid (dir_any h hi)
  have HW : Hid (wrongN M i false = if isDir M i then 21 else 0) := Lib.hid rfl
  generalize isDir M i = di at *
  generalize nptr (P i) = pv at *
  clear h hi
  cases di
  · have HW2 : Hid (wrongN M i false = 0) := Lib.hid HW.out
    clear HW
    go_enter Tryz.func46, Tryz.ntmps46
    go_wp2_with fail
    refine HD.out.mono ?_
    rintro e w1 ⟨rfl, rfl⟩
    go_wp2_with fail
    go_ret
    exact ⟨by rw [HW2.out]; rfl, rfl⟩
  · have HW2 : Hid (wrongN M i false = 21) := Lib.hid HW.out
    clear HW
    go_enter Tryz.func46, Tryz.ntmps46
    go_wp2_with fail
    refine HD.out.mono ?_
    rintro e w1 ⟨rfl, rfl⟩
    go_wp2_with fail
    go_ret
    exact ⟨by rw [HW2.out]; rfl, rfl⟩
set_option maxRecDepth 100000 in
theorem notEmpty_any (h : TIn w tb nb cap P E V M) {i : Nat} (hi : (M i).isSome = true) :
    Calls Tryz.prog 47 #[nptr (P i)] w fun e w' => e = .returned (.int .i64 (wrongN M i true)) ∧ w' = w := by
  have HD := Lib.hid (dir_any h hi)
  have HW : Hid (wrongN M i true = if isDir M i then (if hasN M i then 39 else 0) else 20) := Lib.hid rfl
  obtain ⟨nd, hm⟩ := Option.isSome_iff_exists.1 hi
  obtain ⟨b, hp, hb⟩ := h.at_ hm
  have c1 := cell_blk_some hb (i := 1) rfl
  rw [hp] at HD ⊢
  unfold nptr at *
  cases hdi : isDir M i with
  | false =>
    rw [hdi] at HD HW
    have HW2 : Hid (wrongN M i true = 20) := Lib.hid HW.out
    clear HW h hi hm hp hb hdi
    go_enter Tryz.func47, Tryz.ntmps47
    go_wp2_with fail
    refine HD.out.mono ?_
    rintro e w1 ⟨rfl, rfl⟩
    go_wp2_with fail
    go_ret
    exact ⟨by rw [HW2.out]; rfl, rfl⟩
  | true =>
    rw [hdi] at HD HW
    have hE : ∃ eb f, E i = some eb ∧ nd.ents = some f ∧ MapIs Value.string w eb (entF P f) := by
      have := h.ents i nd hm
      unfold isDir at hdi
      rw [hm] at hdi
      have hdi : nd.ents.isSome = true := hdi
      cases hn : nd.ents with
      | none => rw [hn] at hdi; cases hdi
      | some f =>
        rw [hn] at this
        obtain ⟨eb, h1, h2⟩ := this
        exact ⟨eb, f, h1, rfl, h2⟩
    obtain ⟨eb, f, hE, hf, hMp⟩ := hE
    obtain ⟨n, hlen, hn0⟩ := hMp.len0 klS Tryz.underlying69
    rw [hE] at c1
    have hh : hasN M i = decide (n ≠ 0) := by
      unfold hasN
      rw [decide_eq_decide]
      constructor
      · rintro ⟨s, j, hs⟩ h0
        have := hn0.1 h0 s
        rw [entN_of hm, hf] at hs
        have hs : f s = some j := hs
        unfold entF at this
        rw [hs] at this; cases this
      · intro h0
        apply Classical.byContradiction
        intro hc
        refine h0 (hn0.2 fun s => ?_)
        unfold entF
        cases hs : f s with
        | none => rfl
        | some j => exact absurd ⟨s, j, by rw [entN_of hm, hf]; exact hs⟩ hc
    rw [hh] at HW
    clear h hi hm hp hb hdi hf hMp hn0 hh hE
    cases n with
    | zero =>
      have HW2 : Hid (wrongN M i true = 0) := Lib.hid HW.out
      clear HW
      go_enter Tryz.func47, Tryz.ntmps47
      go_wp2_with fail
      refine HD.out.mono ?_
      rintro e w1 ⟨rfl, rfl⟩
      go_wp2_with fail
      go_ret
      exact ⟨by rw [HW2.out]; rfl, rfl⟩
    | succ n =>
      have HW2 : Hid (wrongN M i true = 39) := Lib.hid (by rw [HW.out]; simp)
      have hpos : (0 : Int) < ((n + 1 : Nat) : Int) := by omega
      clear HW
      go_enter Tryz.func47, Tryz.ntmps47
      go_wp2_with fail
      refine HD.out.mono ?_
      rintro e w1 ⟨rfl, rfl⟩
      go_wp2_with fail
      go_ret
      exact ⟨by rw [HW2.out]; rfl, rfl⟩
end
/-- A map of names: what a directory p has under s. -/
abbrev EM := Nat → ByteArray → Option Nat
def putE (e : EM) (p : Nat) (s : ByteArray) (o : Option Nat) : EM := fun x t => if x = p ∧ t = s then o else e x t
/-- All names, each once. -/
def Names (e : EM) (L : List (Nat × ByteArray)) : Prop := L.Nodup ∧ ∀ x, x ∈ L ↔ (e x.1 x.2).isSome = true
def numL (e : EM) (L : List (Nat × ByteArray)) (i : Nat) : Nat := L.countP fun x => e x.1 x.2 == some i
theorem putE_self {e : EM} {p : Nat} {s : ByteArray} {o : Option Nat} : putE e p s o p s = o := if_pos ⟨rfl, rfl⟩
theorem putE_other {e : EM} {p x : Nat} {s t : ByteArray} {o : Option Nat} (h : ¬ (x = p ∧ t = s)) : putE e p s o x t = e x t := if_neg h
theorem num_put {e : EM} {L : List (Nat × ByteArray)} (h : Names e L) {p : Nat} {s : ByteArray} (i : Nat) (hn : e p s = none) :
    Names (putE e p s (some i)) ((p, s) :: L) ∧ ∀ j, numL (putE e p s (some i)) ((p, s) :: L) j = numL e L j + if j = i then 1 else 0 := by
  have hni : (p, s) ∉ L := fun hm => by have := (h.2 _).1 hm; rw [hn] at this; cases this
  have hoth : ∀ x ∈ L, ¬ (x.1 = p ∧ x.2 = s) := fun x hx ⟨e1, e2⟩ => hni (by rw [← e1, ← e2]; exact hx)
  refine ⟨⟨List.nodup_cons.2 ⟨hni, h.1⟩, fun x => ?_⟩, fun j => ?_⟩
  · rw [List.mem_cons]
    by_cases e1 : x.1 = p ∧ x.2 = s
    · unfold putE
      rw [if_pos e1]
      exact ⟨fun _ => rfl, fun _ => .inl (Prod.ext e1.1 e1.2)⟩
    · rw [putE_other e1, ← h.2 x]
      exact ⟨fun hx => hx.elim (fun e2 => absurd ⟨by rw [e2], by rw [e2]⟩ e1) id, .inr⟩
  · unfold numL
    rw [List.countP_cons, putE_self]
    have hc : List.countP (fun x => putE e p s (some i) x.1 x.2 == some j) L = List.countP (fun x => e x.1 x.2 == some j) L := List.countP_congr fun x hx => by rw [putE_other (hoth x hx)]
    rw [hc]
    congr 1
    by_cases e1 : j = i
    · rw [if_pos e1, e1]; simp
    · rw [if_neg e1, if_neg (by simp; exact fun e2 => e1 e2.symm)]
theorem num_del {e : EM} {L : List (Nat × ByteArray)} (h : Names e L) {p : Nat} {s : ByteArray} {i : Nat} (hn : e p s = some i) :
    ∃ L', Names (putE e p s none) L' ∧ ∀ j, numL (putE e p s none) L' j + (if j = i then 1 else 0) = numL e L j := by
  have hmem : (p, s) ∈ L := (h.2 _).2 (by rw [hn]; rfl)
  obtain ⟨L', hperm⟩ : ∃ L', L.Perm ((p, s) :: L') := by
    obtain ⟨l1, l2, hL⟩ := List.append_of_mem hmem
    exact ⟨l1 ++ l2, by rw [hL]; exact List.perm_middle⟩
  have hnd : (((p, s)) :: L').Nodup := (hperm.nodup_iff).1 h.1
  have hni : (p, s) ∉ L' := (List.nodup_cons.1 hnd).1
  have hoth : ∀ x ∈ L', ¬ (x.1 = p ∧ x.2 = s) := fun x hx ⟨e1, e2⟩ => hni (by rw [← e1, ← e2]; exact hx)
  refine ⟨L', ⟨(List.nodup_cons.1 hnd).2, fun x => ?_⟩, fun j => ?_⟩
  · by_cases e1 : x.1 = p ∧ x.2 = s
    · unfold putE
      rw [if_pos e1]
      exact ⟨fun hx => absurd e1 (hoth x hx), fun hx => by cases hx⟩
    · rw [putE_other e1, ← h.2 x, hperm.mem_iff, List.mem_cons]
      exact ⟨.inr, fun hx => hx.elim (fun e2 => absurd ⟨by rw [e2], by rw [e2]⟩ e1) id⟩
  · unfold numL
    rw [hperm.countP_eq, List.countP_cons, hn]
    have hc : List.countP (fun x => putE e p s none x.1 x.2 == some j) (L') = List.countP (fun x => e x.1 x.2 == some j) (L') := List.countP_congr fun x hx => by rw [putE_other (hoth x hx)]
    rw [hc]
    congr 1
    by_cases e1 : j = i
    · rw [if_pos e1, e1]; simp
    · rw [if_neg e1, if_neg (by simp; exact fun e2 => e1 e2.symm)]
theorem num_pos {e : EM} {L : List (Nat × ByteArray)} (h : Names e L) {p : Nat} {s : ByteArray} {i : Nat} (hn : e p s = some i) : 1 ≤ numL e L i := by
  obtain ⟨L', _, hj⟩ := num_del h hn
  have := hj i
  rw [if_pos rfl] at this
  omega
theorem num_one {e : EM} {L : List (Nat × ByteArray)} (h : Names e L) {p : Nat} {s : ByteArray} {i : Nat} (hn : e p s = some i) (h1 : numL e L i = 1) {q : Nat} {t : ByteArray} (hq : e q t = some i) : q = p ∧ t = s := by
  apply Classical.byContradiction
  intro hc
  obtain ⟨L', hN, hj⟩ := num_del h hn
  have := num_pos hN (p := q) (s := t) (i := i) (by rw [putE_other hc]; exact hq)
  have := hj i
  rw [if_pos rfl] at this
  omega
end Go.Proofs.YtoofcnehoffllaaGreat

namespace Go.Proofs.YtoofcnehoffllaaGreat
open Go.RowKit

def lkN (M : TM) (i : Nat) : Int := match M i with | some nd => nd.links | none => 0
def datN (M : TM) (i : Nat) : List Int := match M i with | some nd => nd.data | none => []
/-- Where names lead, by entries alone. -/
def goE (e : EM) : Nat → List ByteArray → Option Nat
  | i, [] => some i
  | i, s :: l => (e i s).bind fun j => goE e j l
theorem ent_dir {M : TM} {i j : Nat} {s : ByteArray} (h : entN M i s = some j) : isDir M i = true := by
  unfold entN at h
  unfold isDir
  cases hm : M i with
  | none => rw [hm] at h; cases h
  | some nd =>
    rw [hm] at h
    show nd.ents.isSome = true
    cases hn : nd.ents with
    | none =>
      have h : (match nd.ents with | some f => f s | none => none) = some j := h
      rw [hn] at h; cases h
    | some f => rfl
theorem lead_goE {M : TM} : ∀ (l : List ByteArray) (i j : Nat), leadN M i l = .inl j ↔ goE (entN M) i l = some j
  | [], i, j => ⟨fun h => by injection h with h; rw [h]; rfl, fun h => by injection h with h; rw [h]; rfl⟩
  | s :: l, i, j => by
    rw [lead_step]
    show _ ↔ ((entN M i s).bind fun j => goE (entN M) j l) = some j
    cases hen : entN M i s with
    | none =>
      refine ⟨fun h => ?_, fun h => by cases h⟩
      split at h
      · cases h
      · cases h
    | some k =>
      rw [if_pos (ent_dir hen)]
      exact lead_goE l k j
theorem goE_append {e : EM} : ∀ (l m : List ByteArray) (i : Nat), goE e i (l ++ m) = (goE e i l).bind fun j => goE e j m
  | [], m, i => rfl
  | s :: l, m, i => by
    show ((e i s).bind fun j => goE e j (l ++ m)) = (((e i s).bind fun j => goE e j l)).bind fun j => goE e j m
    cases e i s with
    | none => rfl
    | some k => exact goE_append l m k
theorem goE_snoc {e : EM} {l : List ByteArray} {s : ByteArray} {i k : Nat} : goE e i (l ++ [s]) = some k ↔ ∃ j, goE e i l = some j ∧ e j s = some k := by
  rw [goE_append]
  cases goE e i l with
  | none => exact ⟨fun h => (by cases h), fun ⟨j, h, _⟩ => (by cases h)⟩
  | some j =>
    have hb : ((e j s).bind fun j => some j) = e j s := by cases e j s <;> rfl
    show ((e j s).bind fun j => some j) = some k ↔ _
    rw [hb]
    exact ⟨fun h => ⟨j, rfl, h⟩, fun ⟨j', h, h2⟩ => (by injection h with h; rw [h]; exact h2)⟩
theorem goE_mono {e e' : EM} (h : ∀ i s j, e i s = some j → e' i s = some j) : ∀ (l : List ByteArray) (i j : Nat), goE e i l = some j → goE e' i l = some j
  | [], i, j, hg => hg
  | s :: l, i, j, hg => by
    have hg : ((e i s).bind fun j => goE e j l) = some j := hg
    show ((e' i s).bind fun j => goE e' j l) = some j
    cases he : e i s with
    | none => rw [he] at hg; cases hg
    | some k =>
      rw [he] at hg
      rw [h i s k he]
      exact goE_mono h l k j hg
/-- What is always so of a tree. -/
structure TG (M : TM) (cap : Nat) : Prop where
  ok : TOk M cap
  noroot : ∀ p s, entN M p s ≠ some 2
  nms : ∃ L, Names (entN M) L ∧ ∀ i, (M i).isSome = true → i ≠ 2 → lkN M i = numL (entN M) L i
  lk : ∀ i, (M i).isSome = true → 1 ≤ lkN M i ∧ lkN M i ≤ 100 ∧ (isDir M i = true → lkN M i = 1 ∧ datN M i = [])
  byt : ∀ i, (datN M i).length ≤ 38400 ∧ ∀ x ∈ datN M i, 0 ≤ x ∧ x < 256
  reach : ∀ i, (M i).isSome = true → ∃ l, goE (entN M) 2 l = some i
section
variable {M : TM} {cap : Nat}
theorem lkN_of {i : Nat} {nd : Nd} (h : M i = some nd) : lkN M i = nd.links := by unfold lkN; rw [h]
theorem datN_of {i : Nat} {nd : Nd} (h : M i = some nd) : datN M i = nd.data := by unfold datN; rw [h]
theorem isDir_of {i : Nat} {nd : Nd} (h : M i = some nd) : isDir M i = nd.dir := by unfold isDir; rw [h]
theorem isDir_there {i : Nat} (h : isDir M i = true) : ∃ nd f, M i = some nd ∧ nd.ents = some f := by
  unfold isDir at h
  cases hm : M i with
  | none => rw [hm] at h; cases h
  | some nd =>
    rw [hm] at h
    have h : nd.ents.isSome = true := h
    obtain ⟨f, hf⟩ := Option.isSome_iff_exists.1 h
    exact ⟨nd, f, rfl, hf⟩
theorem ent_fun {p : Nat} {nd : Nd} {f : ByteArray → Option Nat} (hm : M p = some nd) (hf : nd.ents = some f) : entN M p = f := by
  funext s; rw [entN_of hm, hf]
/-- Two trees of the same nodes, all but the entries, links, data. -/
theorem TG.one (h : TG M cap) {i : Nat} (hd : lkN M i = 1) {p q : Nat} {s t : ByteArray} (h1 : entN M p s = some i) (h2 : entN M q t = some i) : q = p ∧ t = s := by
  obtain ⟨L, hL, hl⟩ := h.nms
  have hi := h.ok.ent p s i h1
  have h2' : i ≠ 2 := fun e => h.noroot p s (by rw [h1, e])
  have := hl i hi h2'
  rw [hd] at this
  exact num_one hL h1 (by omega) h2
theorem newM_good {cap : Nat} (hc : 5 ≤ cap) : TG newM cap := by
  have he : ∀ p s, entN newM p s = none := fun p s => by
    unfold entN newM
    by_cases e : p = 2
    · rw [if_pos e]
    · rw [if_neg e]
  have hs : ∀ i, (newM i).isSome = true → i = 2 := fun i h => by
    unfold newM at h
    split at h
    · assumption
    · cases h
  have hd : ∀ i, datN newM i = [] := fun i => by
    unfold datN newM
    by_cases e : i = 2
    · rw [if_pos e]
    · rw [if_neg e]
  refine ⟨newM_ok hc, fun p s => by rw [he]; simp, ⟨[], ⟨List.nodup_nil, fun x => by rw [he]; simp⟩, fun i h h2 => absurd (hs i h) h2⟩, fun i h => ?_, fun i => by rw [hd]; simp, fun i h => ⟨[], by rw [hs i h]; rfl⟩⟩
  rw [hs i h]
  exact ⟨by decide, by decide, fun _ => ⟨rfl, rfl⟩⟩
/-- How entries look behind a put. -/
theorem putE_eq {e : EM} {p : Nat} {s : ByteArray} {o : Option Nat} : (fun x t => if x = p then updE (e p) s o t else e x t) = putE e p s o := by
  funext x t
  unfold putE updE
  by_cases h1 : x = p
  · by_cases h2 : t = s
    · simp [h1, h2]
    · simp [h1, h2]
  · simp [h1]
theorem ent_setE {p : Nat} {s : ByteArray} {o : Option Nat} (hp : isDir M p = true) : entN (setE M p (updE (entN M p) s o)) = putE (entN M) p s o := by
  obtain ⟨nd, f, hm, hf⟩ := isDir_there hp
  rw [← putE_eq]
  funext x t
  rw [entN_setE hm hf]
theorem ent_add {i p : Nat} {dir : Bool} {s : ByteArray} (hp : isDir M p = true) (hn : M i = none) : entN (addM M i (freshNd dir) p s) = putE (entN M) p s (some i) := by
  obtain ⟨nd, f, hm, hf⟩ := isDir_there hp
  have hpi : p ≠ i := fun e => by rw [e, hn] at hm; cases hm
  funext x t
  by_cases e1 : x = i
  · rw [e1, putE_other (fun e => hpi e.1.symm), entN_of addM_i]
    unfold entN
    rw [hn]
    unfold freshNd
    cases dir <;> rfl
  · by_cases e2 : x = p
    · rw [e2, entN_of (addM_p hpi hm), hf]
      show updE f s (some i) t = _
      unfold updE putE
      rw [← ent_fun hm hf]
      by_cases e3 : t = s
      · simp [e3]
      · simp [e3]
    · rw [putE_other (fun e => e2 e.1)]
      unfold entN
      rw [addM_o e1 e2]
theorem some_add {i p x : Nat} {nd : Nd} {s : ByteArray} : (addM M i nd p s x).isSome = (if x = i then true else (M x).isSome) := by
  unfold addM
  by_cases e1 : x = i
  · rw [if_pos e1, if_pos e1]; rfl
  · rw [if_neg e1, if_neg e1]
    by_cases e2 : x = p
    · rw [if_pos e2, e2]; cases M p <;> rfl
    · rw [if_neg e2]
theorem add_same {i p x : Nat} {nd : Nd} {s : ByteArray} (h : x ≠ i) : lkN (addM M i nd p s) x = lkN M x ∧ datN (addM M i nd p s) x = datN M x ∧ isDir (addM M i nd p s) x = isDir M x := by
  unfold lkN datN isDir addM
  rw [if_neg h]
  by_cases e2 : x = p
  · rw [if_pos e2, e2]
    cases hm : M p with
    | none => exact ⟨rfl, rfl, rfl⟩
    | some q =>
      refine ⟨rfl, rfl, ?_⟩
      show (q.ents.map _).isSome = q.ents.isSome
      rw [Option.isSome_map]
  · rw [if_neg e2]
    exact ⟨rfl, rfl, rfl⟩
theorem TG.add (h : TG M cap) {i p : Nat} {dir : Bool} {s : ByteArray} (hi : 2 ≤ i ∧ i < cap) (hn : M i = none) (hp : isDir M p = true) (hs : entN M p s = none) : TG (addM M i (freshNd dir) p s) cap := by
  have he := ent_add (dir := dir) (s := s) hp hn
  have hi2 : i ≠ 2 := fun e => by have := h.ok.root_there; rw [← e, hn] at this; cases this
  have hno : ∀ q t, entN M q t ≠ some i := fun q t ht => by have := h.ok.ent q t i ht; rw [hn] at this; cases this
  obtain ⟨L, hL, hl⟩ := h.nms
  obtain ⟨hN, hj⟩ := num_put hL i hs
  have hz : numL (entN M) L i = 0 := by
    unfold numL
    rw [List.countP_eq_zero]
    intro x _
    simp [hno]
  have hsm : ∀ {x : Nat}, x ≠ i → (addM M i (freshNd dir) p s x).isSome = true → (M x).isSome = true := fun {x} e hx => by rw [some_add, if_neg e] at hx; exact hx
  have hpr : (M p).isSome = true := by obtain ⟨nd, f, hm, _⟩ := isDir_there hp; rw [hm]; rfl
  refine ⟨addM_ok h.ok hi hn hp, fun q t ht => ?_, ⟨(p, s) :: L, by rw [he]; exact hN, fun x hx h2 => ?_⟩, fun x hx => ?_, fun x => ?_, fun x hx => ?_⟩
  · rw [he] at ht
    unfold putE at ht
    split at ht
    · injection ht with ht; exact hi2 ht
    · exact h.noroot q t ht
  · rw [he, hj x]
    by_cases e : x = i
    · rw [if_pos e, e, hz, lkN_of addM_i]; rfl
    · rw [if_neg e, (add_same e).1, Nat.add_zero]
      exact hl x (hsm e hx) h2
  · by_cases e : x = i
    · rw [e, lkN_of addM_i, datN_of addM_i]
      exact ⟨Int.le_refl 1, show (1 : Int) ≤ 100 by decide, fun _ => ⟨rfl, rfl⟩⟩
    · obtain ⟨a, b, c⟩ := add_same (M := M) (i := i) (p := p) (s := s) (nd := freshNd dir) e
      rw [a, b, c]
      exact h.lk x (hsm e hx)
  · by_cases e : x = i
    · rw [e, datN_of addM_i]
      exact ⟨show (0 : Nat) ≤ 38400 by decide, fun y hy => by cases hy⟩
    · rw [(add_same e).2.1]; exact h.byt x
  · rw [he]
    have hm : ∀ a t b, entN M a t = some b → putE (entN M) p s (some i) a t = some b := fun a t b hb => by
      rw [putE_other (fun e => by rw [e.1, e.2, hs] at hb; cases hb)]; exact hb
    by_cases e : x = i
    · obtain ⟨l, hlp⟩ := h.reach p hpr
      exact ⟨l ++ [s], goE_snoc.2 ⟨p, goE_mono hm l 2 p hlp, by rw [putE_self, e]⟩⟩
    · obtain ⟨l, hlp⟩ := h.reach x (hsm e hx)
      exact ⟨l, goE_mono hm l 2 x hlp⟩
/-- One name more of a file. -/
def linkM (M : TM) (p : Nat) (s : ByteArray) (i : Nat) : TM := setE (setN M i (lkN M i + 1) (datN M i)) p (updE (entN M p) s (some i))
theorem link_same {i x : Nat} {l : Int} : lkN (setN M i l (datN M i)) x = (if x = i then (if (M i).isSome then l else 0) else lkN M x) ∧ datN (setN M i l (datN M i)) x = datN M x := by
  unfold lkN datN setN
  by_cases e : x = i
  · rw [if_pos e, if_pos e, e]
    cases hm : M i with
    | none => exact ⟨rfl, rfl⟩
    | some nd => exact ⟨rfl, rfl⟩
  · rw [if_neg e, if_neg e]
    exact ⟨rfl, rfl⟩
theorem setE_same {p x : Nat} {f : ByteArray → Option Nat} : lkN (setE M p f) x = lkN M x ∧ datN (setE M p f) x = datN M x := by
  unfold lkN datN setE
  by_cases e : x = p
  · rw [if_pos e, e]
    cases M p <;> exact ⟨rfl, rfl⟩
  · rw [if_neg e]
    exact ⟨rfl, rfl⟩
theorem TG.link (h : TG M cap) {i p : Nat} {s : ByteArray} (hi : (M i).isSome = true) (hf : isDir M i = false) (hp : isDir M p = true) (hs : entN M p s = none) (hk : lkN M i ≠ 100) : TG (linkM M p s i) cap := by
  have hpd : isDir (setN M i (lkN M i + 1) (datN M i)) p = true := isDir_setN.trans hp
  have hee : entN (setN M i (lkN M i + 1) (datN M i)) = entN M := by funext x t; exact entN_setN
  have he : entN (linkM M p s i) = putE (entN M) p s (some i) := by
    unfold linkM
    have := ent_setE (s := s) (o := some i) hpd
    rw [hee] at this
    exact this
  obtain ⟨ndp, fp, hmp, hfp⟩ := isDir_there hpd
  have hi2 : i ≠ 2 := fun e => by have := h.ok.root; rw [← e, hf] at this; cases this
  obtain ⟨L, hL, hl⟩ := h.nms
  obtain ⟨hN, hj⟩ := num_put hL i hs
  have hsm : ∀ x, (linkM M p s i x).isSome = (M x).isSome := fun x => by unfold linkM; rw [some_setE hmp, some_setN]
  have hlk : ∀ x, lkN (linkM M p s i) x = if x = i then lkN M i + 1 else lkN M x := fun x => by unfold linkM; rw [setE_same.1, link_same.1, hi]; rfl
  have hdt : ∀ x, datN (linkM M p s i) x = datN M x := fun x => by unfold linkM; rw [setE_same.2, link_same.2]
  have hdi : ∀ x, isDir (linkM M p s i) x = isDir M x := fun x => by unfold linkM; rw [isDir_setE hmp hfp, isDir_setN]
  have hpr : (M p).isSome = true := by obtain ⟨nd, f, hm, _⟩ := isDir_there hp; rw [hm]; rfl
  refine ⟨setE_ok (setN_ok h.ok) hmp hfp (fun t j ht => ?_), fun q t ht => ?_, ⟨(p, s) :: L, by rw [he]; exact hN, fun x hx h2 => ?_⟩, fun x hx => ?_, fun x => ?_, fun x hx => ?_⟩
  · rw [some_setN]
    unfold updE at ht
    split at ht
    · injection ht with ht; rw [← ht]; exact hi
    · exact h.ok.ent p t j ht
  · rw [he] at ht
    unfold putE at ht
    split at ht
    · injection ht with ht; exact hi2 ht
    · exact h.noroot q t ht
  · rw [hsm] at hx
    rw [he, hj x, hlk x]
    by_cases e : x = i
    · rw [if_pos e, if_pos e, e, hl i hi hi2]; rfl
    · rw [if_neg e, if_neg e]
      exact hl x hx h2
  · rw [hsm] at hx
    rw [hlk, hdt, hdi]
    by_cases e : x = i
    · have := h.lk i hi
      rw [if_pos e, e]
      exact ⟨by omega, by omega, fun hd => by rw [hf] at hd; cases hd⟩
    · rw [if_neg e]; exact h.lk x hx
  · rw [hdt]; exact h.byt x
  · rw [hsm] at hx
    rw [he]
    obtain ⟨l, hlp⟩ := h.reach x hx
    refine ⟨l, goE_mono (fun a t b hb => ?_) l 2 x hlp⟩
    rw [putE_other (fun e => by rw [e.1, e.2, hs] at hb; cases hb)]; exact hb
/-- A name of a node is gone. -/
def dropT (M : TM) (p : Nat) (s : ByteArray) (i : Nat) : TM := match M i with
  | some nd => dropM M p (entN M p) s i nd
  | none => M
theorem goE_drop {e : EM} {p i : Nat} {s : ByteArray} (hi : ∀ t, e i t = none) (hs : e p s = some i) : ∀ (l : List ByteArray) (x j : Nat), j ≠ i → goE e x l = some j → goE (putE e p s none) x l = some j
  | [], x, j, hj, h => h
  | t :: l, x, j, hj, h => by
    have h : ((e x t).bind fun y => goE e y l) = some j := h
    show ((putE e p s none x t).bind fun y => goE (putE e p s none) y l) = some j
    cases hx : e x t with
    | none => rw [hx] at h; cases h
    | some y =>
      rw [hx] at h
      have h : goE e y l = some j := h
      have hne : ¬ (x = p ∧ t = s) := fun ⟨e1, e2⟩ => by
        rw [e1, e2, hs] at hx
        injection hx with hx
        rw [← hx] at h
        cases l with
        | nil => injection h with h; exact hj h.symm
        | cons u l =>
          have h : ((e i u).bind fun y => goE e y l) = some j := h
          rw [hi u] at h; cases h
      rw [putE_other hne, hx]
      exact goE_drop hi hs l y j hj h
theorem TG.drop (h : TG M cap) {i p : Nat} {s : ByteArray} (hs : entN M p s = some i) (hi : ∀ t, entN M i t = none) : TG (dropT M p s i) cap := by
  have hith := h.ok.ent p s i hs
  obtain ⟨nd, hm⟩ := Option.isSome_iff_exists.1 hith
  have hpd := ent_dir hs
  obtain ⟨ndp, fp, hmp, hfp⟩ := isDir_there hpd
  have hip : i ≠ p := fun e => by have := hi s; rw [e, hs] at this; cases this
  have hi2 : i ≠ 2 := fun e => h.noroot p s (by rw [hs, e])
  have hM1 : TOk (setN (setE M p (updE (entN M p) s none)) i (nd.links - 1) nd.data) cap := setN_ok (setE_ok h.ok hmp hfp fun t j ht => by
    unfold updE at ht
    split at ht
    · cases ht
    · exact h.ok.ent p t j ht)
  have hm2 : setE M p (updE (entN M p) s none) i = some nd := by rw [setE_o hip]; exact hm
  have he1 : entN (setN (setE M p (updE (entN M p) s none)) i (nd.links - 1) nd.data) = putE (entN M) p s none := by
    rw [← ent_setE (s := s) (o := none) hpd]
    funext x t; exact entN_setN
  have hs1 : ∀ x, ((setN (setE M p (updE (entN M p) s none)) i (nd.links - 1) nd.data) x).isSome = (M x).isSome := fun x => by rw [some_setN, some_setE hmp]
  have hd1 : ∀ x, isDir (setN (setE M p (updE (entN M p) s none)) i (nd.links - 1) nd.data) x = isDir M x := fun x => by rw [isDir_setN, isDir_setE hmp hfp]
  have hdd : nd.data = datN (setE M p (updE (entN M p) s none)) i := by rw [setE_same.2, datN_of hm]
  have hl1 : ∀ x, lkN (setN (setE M p (updE (entN M p) s none)) i (nd.links - 1) nd.data) x = if x = i then nd.links - 1 else lkN M x := fun x => by rw [hdd, link_same.1, setE_same.1, hm2]; rfl
  have ht1 : ∀ x, datN (setN (setE M p (updE (entN M p) s none)) i (nd.links - 1) nd.data) x = datN M x := fun x => by
    have := (link_same (M := setE M p (updE (entN M p) s none)) (i := i) (x := x) (l := nd.links - 1)).2
    rw [← hdd] at this
    rw [this, setE_same.2]
  obtain ⟨L, hL, hl⟩ := h.nms
  obtain ⟨L', hN, hj⟩ := num_del hL hs
  have hlk := h.lk i hith
  rw [lkN_of hm] at hlk
  have hli := hl i hith hi2
  rw [lkN_of hm] at hli
  have hji := hj i
  rw [if_pos rfl] at hji
  generalize hM' : setN (setE M p (updE (entN M p) s none)) i (nd.links - 1) nd.data = M1 at *
  have hdr : dropT M p s i = if nd.links - 1 = 0 then killM M1 i else M1 := by
    unfold dropT
    rw [hm]
    show dropM M p (entN M p) s i nd = _
    unfold dropM
    rw [hM']
  rw [hdr]
  by_cases h0 : nd.links - 1 = 0
  · rw [if_pos h0]
    have hno : ∀ q t, putE (entN M) p s none q t ≠ some i := fun q t ht => by
      unfold putE at ht
      split at ht
      · cases ht
      · rename_i ne
        exact ne (h.one (by rw [lkN_of hm]; omega) hs ht)
    have hek : entN (killM M1 i) = putE (entN M) p s none := by
      funext x t
      rw [entN_kill, he1]
      by_cases e : x = i
      · rw [if_pos e, e, putE_other (fun e' => hip e'.1), hi t]
      · rw [if_neg e]
    have hsk : ∀ x, (killM M1 i x).isSome = true → x ≠ i ∧ (M x).isSome = true := fun x hx => by
      unfold killM at hx
      split at hx
      · cases hx
      · rename_i e; exact ⟨e, by rw [← hs1]; exact hx⟩
    have hob : ∀ x, x ≠ i → killM M1 i x = M1 x := fun x e => if_neg e
    refine ⟨kill_ok hM1 hi2 (fun q t hq ht => hno q t (by rw [← he1]; exact ht)), fun q t ht => ?_, ⟨L', by rw [hek]; exact hN, fun x hx h2 => ?_⟩, fun x hx => ?_, fun x => ?_, fun x hx => ?_⟩
    · rw [hek] at ht
      unfold putE at ht
      split at ht
      · cases ht
      · exact h.noroot q t ht
    · obtain ⟨e, hx'⟩ := hsk x hx
      have := hj x
      rw [if_neg e] at this
      have hlx := hl1 x
      rw [if_neg e] at hlx
      rw [hek, show lkN (killM M1 i) x = lkN M1 x by unfold lkN; rw [hob x e], hlx, hl x hx' h2]
      omega
    · obtain ⟨e, hx'⟩ := hsk x hx
      have hlx := hl1 x
      rw [if_neg e] at hlx
      rw [show lkN (killM M1 i) x = lkN M1 x by unfold lkN; rw [hob x e], show datN (killM M1 i) x = datN M1 x by unfold datN; rw [hob x e], show isDir (killM M1 i) x = isDir M1 x by unfold isDir; rw [hob x e], hlx, ht1, hd1]
      exact h.lk x hx'
    · by_cases e : x = i
      · rw [show datN (killM M1 i) x = [] by unfold datN killM; rw [if_pos e]]
        exact ⟨by decide, fun y hy => by cases hy⟩
      · rw [show datN (killM M1 i) x = datN M1 x by unfold datN; rw [hob x e], ht1]
        exact h.byt x
    · obtain ⟨e, hx'⟩ := hsk x hx
      obtain ⟨l, hlx⟩ := h.reach x hx'
      exact ⟨l, by rw [hek]; exact goE_drop hi hs l 2 x e hlx⟩
  · rw [if_neg h0]
    refine ⟨hM1, fun q t ht => ?_, ⟨L', by rw [he1]; exact hN, fun x hx h2 => ?_⟩, fun x hx => ?_, fun x => by rw [ht1]; exact h.byt x, fun x hx => ?_⟩
    · rw [he1] at ht
      unfold putE at ht
      split at ht
      · cases ht
      · exact h.noroot q t ht
    · rw [hs1] at hx
      rw [he1, hl1]
      have := hj x
      by_cases e : x = i
      · rw [if_pos e] at this ⊢
        rw [e] at this ⊢
        omega
      · rw [if_neg e] at this ⊢
        rw [hl x hx h2]
        omega
    · rw [hs1] at hx
      rw [hl1, ht1, hd1]
      by_cases e : x = i
      · rw [if_pos e, e]
        refine ⟨by omega, by omega, fun hd => ?_⟩
        have := (h.lk i hith).2.2 hd
        rw [lkN_of hm] at this
        omega
      · rw [if_neg e]; exact h.lk x hx
    · rw [hs1] at hx
      rw [he1]
      by_cases e : x = i
      · have hp2 : 1 ≤ numL (putE (entN M) p s none) L' i := by omega
        obtain ⟨y, hy, hye⟩ := List.countP_pos_iff.1 (show 0 < List.countP (fun x => putE (entN M) p s none x.1 x.2 == some i) L' from hp2)
        have hye : putE (entN M) p s none y.1 y.2 = some i := by simpa using hye
        have hyM : entN M y.1 y.2 = some i := by
          unfold putE at hye
          split at hye
          · cases hye
          · exact hye
        have hyi : y.1 ≠ i := fun e' => by rw [e', hi] at hyM; cases hyM
        obtain ⟨nq, fq, hmq, _⟩ := isDir_there (ent_dir hyM)
        obtain ⟨l, hlq⟩ := h.reach y.1 (by rw [hmq]; rfl)
        exact ⟨l ++ [y.2], goE_snoc.2 ⟨y.1, goE_drop hi hs l 2 y.1 hyi hlq, by rw [e]; exact hye⟩⟩
      · obtain ⟨l, hlx⟩ := h.reach x hx
        exact ⟨l, goE_drop hi hs l 2 x e hlx⟩
end
end Go.Proofs.YtoofcnehoffllaaGreat
