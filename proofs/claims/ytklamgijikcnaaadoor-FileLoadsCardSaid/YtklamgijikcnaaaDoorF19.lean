/- Rows of places; walk of file's Places. -/
import Derived.Test.YtklamgijikcnaaaDoorF18
namespace Go.Proofs.YtklamgijikcnaaaDoor
open Go.RowKit

theorem infoPlace : (Tryd.prog.info? 46).map (fun i => (i.zero, i.size, i.bytes)) = some (some (.agg #[.int .i64 0, .int .i64 0]), 2, 16) := by kernel_rfl
def flat2 (l : List (Int × Int)) : List Value := l.flatMap fun p => [.int .i64 p.1, .int .i64 p.2]
theorem flat2_length (l : List (Int × Int)) : (flat2 l).length = l.length * 2 := by
  unfold flat2
  induction l with
  | nil => rfl
  | cons p l ih => rw [List.flatMap_cons, List.length_append, ih, List.length_cons]; simp; omega
theorem flat2_one (l : List (Int × Int)) : ∀ u ∈ flat2 l, u.oneCell' = true := fun u hu => by
  unfold flat2 at hu
  obtain ⟨p, _, hp⟩ := List.mem_flatMap.1 hu
  simp at hp
  rcases hp with rfl | rfl <;> rfl
theorem flat2_append (l m : List (Int × Int)) : flat2 (l ++ m) = flat2 l ++ flat2 m := List.flatMap_append
theorem flat2_at : ∀ {l : List (Int × Int)} {j : Nat} {p : Int × Int}, l[j]? = some p → (flat2 l)[j * 2]? = some (.int .i64 p.1) ∧ (flat2 l)[j * 2 + 1]? = some (.int .i64 p.2)
  | q :: l, 0, p, h => by
    obtain rfl : q = p := by simpa using h
    exact ⟨rfl, rfl⟩
  | q :: l, j + 1, p, h => by
    have h' : l[j]? = some p := by simpa using h
    obtain ⟨h1, h2⟩ := flat2_at h'
    refine ⟨?_, ?_⟩
    · rw [show (j + 1) * 2 = j * 2 + 1 + 1 by omega]
      show (flat2 l)[j * 2]? = _
      exact h1
    · rw [show (j + 1) * 2 + 1 = j * 2 + 1 + 1 + 1 by omega]
      show (flat2 l)[j * 2 + 1]? = _
      exact h2
/-- A row of places that the call owns. -/
def OwnP (w : World) (B : Nat) (v : Value) (l : List (Int × Int)) : Prop := w.ownsRow B 46 2 v l.length (flat2 l)
section
variable {w w' : World} {B : Nat} {v : Value} {l : List (Int × Int)}
theorem OwnP.nil (w : World) (B : Nat) : OwnP w B (.slice none 0 0) [] := ⟨rfl, .inl ⟨rfl, rfl⟩⟩
theorem OwnP.fr {S : Nat → Prop} (h : OwnP w B v l) (hf : Fr S w w') (hs : ∀ g, v.ownBlock = some g → ¬ S g) : OwnP w' B v l := own_frame h hf hs
theorem OwnP.below (h : OwnP w B v l) (hb : Below w.heap.size w w') : OwnP w' B v l := h.fr (S := fun _ => False) (Fr.below hb) fun _ _ => id
theorem OwnP.mono {B' : Nat} (h : OwnP w B v l) (hb : B' ≤ B) : OwnP w B' v l := own_mono h hb
theorem OwnP.shape (h : OwnP w B v l) : ∃ a c, v = .slice a l.length c := own_shape h
theorem OwnP.lt (h : OwnP w B v l) : ∀ k, v.ownBlock = some k → B ≤ k ∧ k < w.heap.size := World.ownsRow.lt h
theorem OwnP.cells (h : OwnP w B v l) (hl : 0 < l.length) : ∃ g c, v = .slice (some ⟨g, 0, none⟩) l.length c ∧ l.length ≤ c ∧ B ≤ g ∧ g < w.heap.size ∧ ∀ (j : Nat) p, l[j]? = some p → w.cell? ⟨g, j * 2, none⟩ = some (.int .i64 p.1) ∧ w.cell? ⟨g, j * 2 + 1, none⟩ = some (.int .i64 p.2) := by
  rcases h.2 with ⟨_, h0⟩ | ⟨g, cap, cur, rfl, h0, hg, hc, _, _, ht⟩
  · omega
  · refine ⟨g, cap, rfl, hc, h0, blk_lt hg, fun j p hj => ?_⟩
    have hjl := (List.getElem?_eq_some_iff.1 hj).1
    obtain ⟨h1, h2⟩ := flat2_at hj
    rw [← ht] at h1 h2
    rw [List.getElem?_take_of_lt (by omega), Array.getElem?_toList] at h1 h2
    exact ⟨cell_blk_some hg h1, cell_blk_some hg h2⟩
theorem wpList_append_place {ops : Array Oper} {rest : List Oper} {o : Oper} {a : Act} {Q : Exit → Act → World → Prop} (hgd : o.guard = none) (s x : Operand) (ho : o.op = .call { callee := .builtin .append, args := #[s, x], argTypes := #[43, 43] })
    (hs : a.eval s = v) (hown : OwnP w B v l) (nb c : Nat) (hx : a.eval x = .slice (some ⟨nb, 0, none⟩) 1 c) (p : Int × Int) {t : TypeId} {z : Nat × Nat} (hnews : w.heap[nb]? = some (.cells #[.int .i64 p.1, .int .i64 p.2] t z)) (hlen : l.length + 1 ≤ 1000000000) (hB : B ≤ w.heap.size)
    (h : ∀ g cap w', OwnP w' B (.slice (some ⟨g, 0, none⟩) (l.length + 1) cap) (l ++ [p]) → Fr (fun y => v.ownBlock = some y) w w' → (v.ownBlock = some g ∨ w.heap.size ≤ g) → g < w'.heap.size → wpList Tryd.prog ops Q rest (a.put o.dst (.slice (some ⟨g, 0, none⟩) (l.length + 1) cap)) w') :
    wpList Tryd.prog ops Q (o :: rest) a w := by
  obtain ⟨i0, hi, hz0, hz1, hz2⟩ := info_parts infoPlace
  refine wpList_append_lies w hgd s x 43 ho B 46 i0 _ 2 16 Tryd.underlying43 hi hz0 hz1 hz2 rfl (by decide) v l.length (flat2 l) hs hown ⟨nb, 0, none⟩ 1 c (flat2 [p]) hx rfl ?_ (flat2_one _) (by decide) (by unfold maxLen; omega) (by omega) hB _ rfl ?_
  · intro j u hj
    have hadd : (⟨nb, 0, none⟩ : Addr).add j = ⟨nb, j, none⟩ := by unfold Addr.add; split <;> simp_all
    rw [hadd]
    exact cell_blk_some hnews (by rw [← Array.getElem?_toList]; exact hj)
  · intro g cap w' h1 h2 h3 h4
    refine h g cap w' ?_ (Fr.grown h2) (h3.imp id fun e => by omega) h4
    unfold OwnP
    rw [List.length_append, flat2_append]; exact h1
end
theorem OwnP.news {w : World} {p : Int × Int} : (w.alloc (.cells #[.int .i64 p.1, .int .i64 p.2] 46)).heap[w.heap.size]? = some (.cells #[.int .i64 p.1, .int .i64 p.2] 46 (0, 0)) := blk_new rfl
/-- All that have an address. -/
def placesD (d : Int → Int) : List (Int × Int) := (keysD d).map fun n => (n, d n)
def placesM (m : MM) : List (Int × Int) := ((metasOf m).filter fun k => decide (adrM m k ≠ 0)).map fun k => (k, adrM m k)
def placesOf (d : Int → Int) (m : MM) : List (Int × Int) := placesD d ++ placesM m
def PlSt (w : World) (kv out : Value) (ks : List Int) (L : List (Int × Int)) (wr : World) : Prop :=
  OwnP wr w.heap.size out L ∧ Below w.heap.size w wr ∧ RowI wr w.heap.size kv ks ∧ (0 < ks.length → ∀ g, out.ownBlock = some g → kv.ownBlock ≠ some g)
theorem placesM_snoc {m : MM} {ks : List Int} {x : Int} : ((ks ++ [x]).filter fun k => decide (adrM m k ≠ 0)).map (fun k => (k, adrM m k)) = (ks.filter fun k => decide (adrM m k ≠ 0)).map (fun k => (k, adrM m k)) ++ if adrM m x ≠ 0 then [(x, adrM m x)] else [] := by
  rw [List.filter_append, List.map_append]
  congr 1
  by_cases e : adrM m x = 0
  · rw [if_neg (by simp [e]), List.filter_cons_of_neg (by simp [e])]; rfl
  · rw [if_pos e, List.filter_cons_of_pos (by simp [e])]; rfl
theorem PlSt.push {w wr w1 wA : World} {kv out : Value} {ks : List Int} {L : List (Int × Int)} {p : Int × Int} {g cap : Nat} (h : PlSt w kv out ks L wr) (h1 : Below wr.heap.size wr w1) (ho : OwnP wA w.heap.size (.slice (some ⟨g, 0, none⟩) (L.length + 1) cap) (L ++ [p])) (hf : Fr (fun y => out.ownBlock = some y) w1 wA) (hg : out.ownBlock = some g ∨ wr.heap.size ≤ g) :
    PlSt w kv (.slice (some ⟨g, 0, none⟩) (L.length + 1) cap) ks (L ++ [p]) wA := by
  obtain ⟨o1, b1, r1, a1⟩ := h
  have b2 := below_call b1 h1 (Nat.le_refl _)
  refine ⟨ho, b2.trans (hf.toBelow (B := w.heap.size) b2.size fun x hx => (o1.lt x hx).1), (r1.below h1).fr' hf (fun h0 q hq e => a1 h0 q e hq), fun h0 q hq e => ?_⟩
  have hq' : g = q := by injection hq
  subst hq'
  rcases hg with hg | hg
  · exact a1 h0 _ hg e
  · have := (r1.lt h0 _ e).2; omega
set_option maxHeartbeats 4000000 in
set_option maxRecDepth 100000 in
theorem places_any {w : World} {fb : Nat} {d : Int → Int} {m : MM} {F : Nat → Prop} (hF : FAt w fb d m F) (hI : Inv d m) :
    Calls Tryd.prog 15 #[.pointer (some ⟨fb, 0, none⟩)] w fun e w' => ∃ v, e = .returned v ∧ OwnP w' w.heap.size v (placesOf d m) ∧ Below w.heap.size w w' := by
  obtain ⟨db, mb, P, hin, hft⟩ := hF.ex
  have c0 := cell_blk_some hin.top (i := 0) rfl
  have hkl := keysD_length (d := d)
  have hw0 := hF.span.lt
  have hsr := sorted_any hin.md zero_int (fun k hk => by have := keysD_range ((dataF_some hI k).1 hk); omega) (keysD_nodup d) (fun k => (dataF_some hI k).symm) (by omega)
  rw [sortI_keysD] at hsr
  have HS := Lib.hid hsr
  have HF := Lib.hid hF; have HI := Lib.hid hI; have HIN := Lib.hid hin; have HFT := Lib.hid hft
  clear hF hI hin hft hsr
  go_enter Tryd.func15, Tryd.ntmps15
  go_wp2_with fail
  refine (keys_any _ _).mono ?_
  rintro e w1 ⟨rfl, rfl⟩
  go_wp2_with fail
  refine HS.out.mono ?_
  rintro e w2 ⟨kv, rfl, hk2, hb2⟩
  have hb : Below w.heap.size w w2 := ((Below.refl _ w).alloc (Nat.le_refl _) _).trans (hb2.mono (Nat.le_succ _))
  obtain ⟨xk, yk, rfl⟩ := hk2.shape
  have ST : Hid (PlSt w (.slice xk (keysD d).length yk) (.slice none 0 0) (keysD d) (((keysD d).take 0).map fun n => (n, d n)) w2) := Lib.hid ⟨OwnP.nil _ _, hb, OwnI.row (hk2.mono (Nat.le_succ _)), fun _ g hg => by cases hg⟩
  clear hk2 hb2 hb c0 HS
  go_wp2_with fail
  go_loopw [3, 16] (fun out idx wr => ∃ i : Nat, i ≤ (keysD d).length ∧ idx = .int .i64 i ∧ PlSt w (.slice xk (keysD d).length yk) out (keysD d) (((keysD d).take i).map fun n => (n, d n)) wr) (fun _ idx _ => (keysD d).length - (RowKit.intOf idx).toNat)
  case atStart => exact ⟨0, by omega, rfl, ST.out⟩
  case round =>
    obtain ⟨i, hi, rfl, hst⟩ := hrel
    clear ST
    have HC := Lib.hid hst
    clear hst
    by_cases hil : i < (keysD d).length
    · obtain ⟨x, hx⟩ : ∃ x, (keysD d)[i]? = some x := ⟨_, List.getElem?_eq_getElem hil⟩
      obtain ⟨g, c, he, _, _, _, hcell⟩ := HC.out.2.2.1.cells (by omega)
      injection he with h1 _ h2
      subst h1 h2
      have hcx := hcell i x hx
      have hii : (i : Int) < ((keysD d).length : Int) := by omega
      have hi0 : (0 : Int) ≤ (i : Int) := by omega
      have hinr := HIN.out.fr (S := fun _ => False) ((Fr.below HC.out.2.1).mono fun _ _ => id) (fun _ _ => id)
      have lkd := hinr.lookD x
      have c0 := cell_blk_some hinr.top (i := 0) rfl
      have HTK := Lib.hid (take_at hx)
      obtain ⟨L, hL⟩ : ∃ L, L = ((keysD d).take i).map fun n => (n, d n) := ⟨_, rfl⟩
      have hLl : L.length ≤ 600 := by rw [hL, List.length_map, List.length_take]; omega
      rw [← hL] at HC
      have HL := Lib.hid hL
      clear hcell hx hinr hL
      have hsz := HC.out.2.1.size
      go_wp2_with (refine wpList_append_place rfl (.tmp 20) (.tmp 29) rfl (by rfl) (HC.out.1.below ((Below.refl _ wr).alloc (Nat.le_refl _) _)) _ 1 (by rfl) (x, d x) (OwnP.news (p := (x, d x))) (by omega) (by simp; omega) ?_)
      intro g2 cap wA ho hf hg hlt
      have hP := HC.out.push ((Below.refl _ wr).alloc (Nat.le_refl _) _) ho hf (hg.imp id fun h => by omega)
      have HPP := Lib.hid hP
      clear ho hf hg hlt hP lkd c0 hcx
      go_wp2_with fail
      go_roundw
      case rel => exact ⟨i + 1, by omega, by go_num, by rw [HTK.out, List.map_append, ← HL.out]; exact HPP.out⟩
      case measure => simp only [RowKit.intOf]; omega
    · obtain rfl : i = (keysD d).length := by omega
      rw [List.take_length] at HC
      have HMT := Lib.hid (metas_any (HF.out.fr (S := fun _ => False) ((Fr.below HC.out.2.1).mono fun _ _ => id) (fun _ _ => id) id))
      have hsz := HC.out.2.1.size
      go_wp2_with fail
      refine HMT.out.mono ?_
      rintro e w3 ⟨mv, rfl, hr, hb3⟩
      have hm42 : (metasOf m).length ≤ 42 := by
        have h1 : metasN.length = 42 := by decide +kernel
        rw [← h1]; exact List.length_filter_le _ _
      obtain ⟨xm, ym, rfl⟩ := hr.shape
      have hown3 := HC.out.1.below hb3
      have ST : Hid (PlSt w (.slice xm (metasOf m).length ym) u3 (metasOf m) (placesD d ++ (((metasOf m).take 0).filter fun k => decide (adrM m k ≠ 0)).map fun k => (k, adrM m k)) w3) := Lib.hid ⟨by rw [List.take_zero, List.filter_nil, List.map_nil, List.append_nil]; exact hown3, below_call HC.out.2.1 hb3 (Nat.le_refl _), hr.mono hsz, fun h0 q hq e => by
        have h1 := (HC.out.1.lt q hq).2
        have h2 := (hr.lt h0 q e).1
        omega⟩
      have H42 := Lib.hid hm42
      have HI3 := Lib.hid HIN.out
      clear hown3 hr hb3 HMT HC
      go_wp2_with fail
      go_loopw [3, 35] (fun out idx wr => ∃ i : Nat, i ≤ (metasOf m).length ∧ idx = .int .i64 i ∧ PlSt w (.slice xm (metasOf m).length ym) out (metasOf m) (placesD d ++ (((metasOf m).take i).filter fun k => decide (adrM m k ≠ 0)).map fun k => (k, adrM m k)) wr) (fun _ idx _ => (metasOf m).length - (RowKit.intOf idx).toNat)
      case atStart => exact ⟨0, by omega, rfl, ST.out⟩
      case round =>
        obtain ⟨i, hi, rfl, hst⟩ := hrel
        clear ST
        have HC := Lib.hid hst
        clear hst
        by_cases hil : i < (metasOf m).length
        · obtain ⟨x, hx⟩ : ∃ x, (metasOf m)[i]? = some x := ⟨_, List.getElem?_eq_getElem hil⟩
          obtain ⟨g, c, he, _, _, _, hcell⟩ := HC.out.2.2.1.cells (by omega)
          injection he with h1 _ h2
          subst h1 h2
          have hcx := hcell i x hx
          have hii : (i : Int) < ((metasOf m).length : Int) := by omega
          have hi0 : (0 : Int) ≤ (i : Int) := by omega
          have hinr := HI3.out.fr (S := fun _ => False) ((Fr.below HC.out.2.1).mono fun _ _ => id) (fun _ _ => id)
          have hms : (m x).isSome = true := by
            have := List.mem_of_getElem? hx
            unfold metasOf at this
            exact (List.mem_filter.1 this).2
          obtain ⟨⟨a, u⟩, hmx⟩ := Option.isSome_iff_exists.1 hms
          obtain ⟨b, hpb, hbb⟩ := hinr.at hmx
          have lkm := hinr.lookM x
          rw [hpb] at lkm
          have c1 := cell_blk_some hinr.top (i := 1) rfl
          have d0 := cell_blk_some hbb (i := 0) rfl
          have hax : adrM m x = a := by unfold adrM; rw [hmx]; rfl
          have HTK := Lib.hid (take_at hx)
          obtain ⟨L, hL⟩ : ∃ L, L = placesD d ++ (((metasOf m).take i).filter fun k => decide (adrM m k ≠ 0)).map fun k => (k, adrM m k) := ⟨_, rfl⟩
          have hLl : L.length ≤ 642 := by
            have h1 := List.length_filter_le (fun k => decide (adrM m k ≠ 0)) ((metasOf m).take i)
            rw [List.length_take] at h1
            rw [hL, List.length_append, List.length_map]
            unfold placesD
            rw [List.length_map]; omega
          rw [← hL] at HC
          have HL := Lib.hid hL; have HAX := Lib.hid hax
          have hsz := HC.out.2.1.size
          clear hcell hx hinr hL hms hmx hpb hbb hax
          by_cases ha : a = 0
          · have q : (a == 0) = true := beq_iff_eq.2 ha
            have q2 : (a != 0) = false := by simp [ha]
            have HA := Lib.hid ha
            clear ha
            go_wp2_with fail
            go_roundw
            case rel => exact ⟨i + 1, by omega, by go_num, by rw [HTK.out, placesM_snoc, HAX.out, if_neg (by simp [HA.out]), List.append_nil, ← HL.out]; exact HC.out⟩
            case measure => simp only [RowKit.intOf]; omega
          · have q : (a == 0) = false := beq_eq_false_iff_ne.2 ha
            have q2 : (a != 0) = true := by simp [ha]
            go_wp2_with (refine wpList_append_place rfl (.tmp 50) (.tmp 54) rfl (by rfl) (HC.out.1.below ((Below.refl _ wr).alloc (Nat.le_refl _) _)) _ 1 (by rfl) (x, a) (OwnP.news (p := (x, a))) (by omega) (by simp; omega) ?_)
            intro g2 cap wA ho hf hg hlt
            have hP := HC.out.push ((Below.refl _ wr).alloc (Nat.le_refl _) _) ho hf (hg.imp id fun h => by omega)
            have HPP := Lib.hid hP
            clear ho hf hg hlt hP lkm c1 d0 hcx
            go_wp2_with fail
            go_roundw
            case rel => exact ⟨i + 1, by omega, by go_num, by rw [HTK.out, placesM_snoc, HAX.out, if_pos ha, ← List.append_assoc, ← HL.out]; exact HPP.out⟩
            case measure => simp only [RowKit.intOf]; omega
        · obtain rfl : i = (metasOf m).length := by omega
          rw [List.take_length] at HC
          go_wp2_with fail
          go_ret
          exact ⟨_, rfl, HC.out.1, HC.out.2.1⟩
end Go.Proofs.YtklamgijikcnaaaDoor
