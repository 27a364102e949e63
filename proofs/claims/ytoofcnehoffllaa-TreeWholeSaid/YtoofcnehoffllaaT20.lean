/- Walks of Truncate, Read, Stat. -/
import Derived.Test.YtoofcnehoffllaaT19
namespace Go.Proofs.Ytoofcnehoffllaa
open Go.RowKit

section
variable {w w' : World} {tb nb cap : Nat} {P E : Nat → Option Nat} {V : Nat → Value} {M : TM}
theorem srcCut {w : World} {B n c K : Nat} {a : Option Addr} {xs : List Value} (h : w.ownsRow B 5 1 (.slice a n c) n xs) (h1 : ∀ u ∈ xs, u.oneCell' = true) (hK : K ≤ n) : SrcG 1 w (.slice a K c) K (xs.take K) :=
  SrcG.of_own (own_cut h hK) fun u hu => h1 u (List.mem_of_mem_take hu)
theorem take_sized {d : List Int} {k : Nat} : sizedN (d.take (min k d.length)) k = sizedN d k := by
  unfold sizedN
  apply List.ext_getElem?
  intro j
  simp only [List.getElem?_take, List.getElem?_append, List.length_take, List.getElem?_replicate]
  grind
set_option maxHeartbeats 2000000 in
set_option maxRecDepth 100000 in
theorem truncate_any {F : Nat → Prop} (hAt : TAt w tb cap F M) (hG : TG M cap) (s : ByteArray) (hs : s.size ≤ 1000000) (k : Int) (hk : -9223372036854775808 ≤ k ∧ k ≤ 9223372036854775807) :
    Calls Try.prog 20 #[.pointer (some ⟨tb, 0, none⟩), .string s, .int .i64 k] w fun e w' => e = .returned (.int .i64 (truncN M s k).1) ∧ TLeft w w' tb cap F (truncN M s k).2 := by
  obtain ⟨nb, P, E, V, h, hFt⟩ := hAt
  have HFT := Lib.hid hFt; have HT := Lib.hid h; have HG := Lib.hid hG
  have hf := file_any h s hs
  rw [fileV_eq] at hf
  have HF := Lib.hid hf
  have HW : Hid (truncN M s k = match fileN M s with
    | .inr c => (c, M)
    | .inl i => if k < 0 then (22, M) else if 38400 < k then (27, M) else (0, setN M i (lkN M i) (sizedN (datN M i) k.toNat))) := Lib.hid rfl
  obtain ⟨a1, a2⟩ := hk
  clear hFt h hG hf hs
  cases hq : fileN M s with
  | inr c =>
    have hc := file_code hq
    have HRES : Hid (truncN M s k = (c, M)) := Lib.hid (by rw [HW.out, hq])
    rw [hq] at HF
    have hc2 : (c != 0) = true := by simp [hc]
    clear hq hc HW
    unfold leadV at HF
    go_enter Try.func20, Try.ntmps20
    go_wp2_with fail
    refine HF.out.mono ?_
    rintro e w1 ⟨rfl, hb1⟩
    have HLT := Lib.hid (TLeft.same HT.out HFT.out hb1)
    clear hb1 HF
    go_wp2_with fail
    go_ret
    rw [HRES.out]
    exact ⟨rfl, HLT.out⟩
  | inl i =>
    obtain ⟨hlk, hdi⟩ := file_in hq
    have hi := look_isin HT.out hlk
    obtain ⟨nd, hm⟩ := Option.isSome_iff_exists.1 hi
    obtain ⟨b, hp, _⟩ := HT.out.at_ hm
    have HLV : leadV P (.inl i) = .tuple #[.pointer (some ⟨b, 0, none⟩), .int .i64 0] := by show Value.tuple #[nptr (P i), _] = _; rw [hp]; rfl
    have hw2 : truncN M s k = if k < 0 then (22, M) else if 38400 < k then (27, M) else (0, setN M i (lkN M i) (sizedN (datN M i) k.toNat)) := by rw [HW.out, hq]
    have HW2 := Lib.hid hw2
    rw [hq, HLV] at HF
    have HM := Lib.hid hm; have HP := Lib.hid hp
    clear hq hlk hdi hi hm hp HLV hw2 HW
    by_cases h1 : k < 0
    · have HRES : Hid (truncN M s k = (22, M)) := Lib.hid (by rw [HW2.out, if_pos h1])
      clear HW2
      go_enter Try.func20, Try.ntmps20
      go_wp2_with fail
      refine HF.out.mono ?_
      rintro e w1 ⟨rfl, hb1⟩
      have HLT := Lib.hid (TLeft.same HT.out HFT.out hb1)
      clear hb1 HF
      go_wp2_with fail
      go_ret
      rw [HRES.out]
      exact ⟨rfl, HLT.out⟩
    · by_cases h3 : 38400 < k
      · have HRES : Hid (truncN M s k = (27, M)) := Lib.hid (by rw [HW2.out, if_neg h1, if_pos h3])
        clear HW2
        go_enter Try.func20, Try.ntmps20
        go_wp2_with fail
        refine HF.out.mono ?_
        rintro e w1 ⟨rfl, hb1⟩
        have HLT := Lib.hid (TLeft.same HT.out HFT.out hb1)
        clear hb1 HF
        go_wp2_with fail
        go_ret
        rw [HRES.out]
        exact ⟨rfl, HLT.out⟩
      · have HRES : Hid (truncN M s k = (0, setN M i (lkN M i) (sizedN (datN M i) k.toNat))) := Lib.hid (by rw [HW2.out, if_neg h1, if_neg h3])
        obtain ⟨p, hpn⟩ : ∃ p : Nat, k = p := ⟨k.toNat, by omega⟩
        subst hpn
        have hdb := HG.out.byt i
        rw [datN_of HM.out] at hdb HRES
        clear HW2
        go_enter Try.func20, Try.ntmps20
        go_wp2_with fail
        refine HF.out.mono ?_
        rintro e w1 ⟨rfl, hb1⟩
        have hn1 := (HT.out.below hb1).node i b nd HP.out HM.out
        have hd1 := (HT.out.below hb1).data i nd HM.out
        have c2 := cell_blk_some hn1 (i := 2) rfl
        have g2 := free_blk (i := 2) hn1
        have HB1 := Lib.hid hb1; have HN1 := Lib.hid hn1; have HD1 := Lib.hid hd1
        have d1 : (nd.data.length : Int) ≤ 38400 := by omega
        obtain ⟨K, hK⟩ : ∃ K, K = min p nd.data.length := ⟨_, rfl⟩
        have HK := Lib.hid hK
        have kk : K ≤ 38400 := by omega
        have kd : K ≤ nd.data.length := by omega
        have m0 : (0 : Int) ≤ (K : Int) := by omega
        have hgr : ∀ (v2 : Value) (w3 : World), w3.heap[b]? = some (.cells #[.int .i64 i, .map (E i), v2, .int .i64 nd.links] 67 (0, 0)) → w3.ownsRow 0 5 1 v2 K ((u8s nd.data).take K) →
            Calls Try.prog 40 #[.pointer (some ⟨b, 0, none⟩), .int .i64 p] w3 fun e w' => e = .returned (.tuple #[]) ∧ ∃ v', w'.heap[b]? = some (.cells #[.int .i64 i, .map (E i), v', .int .i64 nd.links] 67 (0, 0)) ∧
              w'.ownsRow 0 5 1 v' (sizedN nd.data p).length (u8s (sizedN nd.data p)) ∧ (v'.ownBlock = v2.ownBlock ∨ ∃ c, v'.ownBlock = some c ∧ w3.heap.size ≤ c) ∧ Fr (fun x => x = b ∨ v2.ownBlock = some x) w3 w' := fun v2 w3 ha hb => by
          have hz : (nd.data.take K).length = K := by rw [List.length_take]; omega
          have := grow_any (k := p) (d := nd.data.take K) ha (by rw [hz, u8s_take]; exact hb) (by omega) (by omega)
          rw [show sizedN (nd.data.take K) p = sizedN nd.data p by rw [hK]; exact take_sized] at this
          exact this
        have HGR := Lib.hid hgr
        rcases hd1.2 with ⟨hva, h0⟩ | ⟨g, c, cur, hva, -, hg, hgc, hgm, hgs, hgt⟩
        · rw [hva] at c2
          have hKi : min ((p : Nat) : Int) 0 = 0 := by omega
          obtain rfl : K = 0 := by omega
          have HCL : Hid (∀ w', Below w1.heap.size w1 w' → Calls Try.prog 39 #[.slice none 0 0] w' fun e w'' => ∃ v', e = .returned v' ∧ w''.ownsRow w'.heap.size 5 1 v' 0 ((u8s nd.data).take 0) ∧ Below w'.heap.size w' w'') := Lib.hid fun w' _ => cloneB_any (xs := []) ⟨none, 0, rfl, rfl, (fun u hu => by cases hu), fun h => by cases h⟩ (by omega)
          clear hb1 HF hn1 hd1 hdb hK hva h0 kk kd hgr
          go_wp2_with fail
          go_region_law
            (go_simp; go_at_call 39
             refine (HCL.out w1.drew (below_drewN (Below.refl _ w1) 1)).mono ?_
             rintro e w2 ⟨v2, rfl, hown2, hb2⟩
             have hb2 : Below w1.heap.size w1 w2 := below_call (below_drewN (Below.refl _ w1) 1) hb2 (Nat.le_refl _)
             have hn2 := (hb2.block b (blk_lt HN1.out)).trans HN1.out
             have c3 := cell_blk_some hn2 (i := 2) rfl
             have g3 := free_blk (i := 2) hn2
             obtain ⟨va2, vc2, rfl⟩ := own_shape hown2
             have HB2 := Lib.hid hb2; have HN2 := Lib.hid hn2; have HO2 := Lib.hid hown2
             clear hb2 hn2 hown2
             dsimp only)
          all_goals
            have hn3 := blk_set (i := 2) HN2.out (.slice va2 0 vc2)
            have hf3 : Fr (fun x => x = b) w2 (w2.setCell ⟨b, 2, none⟩ (.slice va2 0 vc2)) := (Fr.refl (fun x => x = b) w2).setCell ⟨b, 2, none⟩ rfl _
            have ho3 := own_frame HO2.out hf3 fun g' hg' e => by
              have := (World.ownsRow.lt HO2.out g' hg').1
              have h9 : w1.heap.size ≤ g' := this
              have := blk_lt HN1.out
              omega
            have HG3 := Lib.hid (HGR.out _ _ hn3 (own_mono ho3 (Nat.zero_le _)))
            have HN3 := Lib.hid hn3; have HF3 := Lib.hid hf3
            clear hn3 hf3 ho3
            go_wp2_with fail
            refine HG3.out.mono ?_
            rintro e w4 ⟨rfl, v4, hn4, ho4, hl4, hf4⟩
            have HN4 := Lib.hid hn4; have HO4 := Lib.hid ho4; have HL4 := Lib.hid hl4; have HF4 := Lib.hid hf4
            clear hn4 ho4 hl4 hf4 HG3 HGR HCL
            go_wp2_with fail
            go_ret
            rw [HRES.out]
            have hv2 : ∀ g', (Value.slice va2 0 vc2).ownBlock = some g' → w1.heap.size ≤ g' := fun g' hg' => (World.ownsRow.lt HO2.out g' hg').1
            have hsz : w1.heap.size ≤ (w2.setCell ⟨b, 2, none⟩ (.slice va2 0 vc2)).heap.size := by rw [size_set]; exact HB2.out.size
            refine ⟨rfl, HT.out.dataset HFT.out HB1.out HM.out HP.out HN4.out HO4.out ?_ ((((Fr.below HB2.out).trans (HF3.out.tell fun x hx => .inl hx)).trans' HF4.out fun y hy e => ?_))⟩
            · intro c' h'
              rcases HL4.out with e | ⟨c2, e, hc'⟩
              · exact .inr (hv2 c' (by rw [← e]; exact h'))
              · rw [h'] at e
                injection e with e
                exact .inr (by omega)
            · rcases e with e | e
              · exact .inl e
              · exact absurd (hv2 y e) (by omega)
        · rw [hva] at c2
          have hKi : min ((p : Nat) : Int) ((nd.data.length : Nat) : Int) = (K : Int) := by omega
          have m1 : (K : Int) ≤ (c : Int) := by omega
          have HCL : Hid (∀ w', Below w1.heap.size w1 w' → Calls Try.prog 39 #[.slice (some ⟨g, 0, none⟩) K c] w' fun e w'' => ∃ v', e = .returned v' ∧ w''.ownsRow w'.heap.size 5 1 v' K ((u8s nd.data).take K) ∧ Below w'.heap.size w' w'') := Lib.hid fun w' hw' => cloneB_any ((srcCut (by rw [← hva]; exact hd1) (u8s_one _) kd).below hw') (by omega)
          clear hb1 HF hn1 hd1 hdb hK hva hg hgc hgm hgs hgt kk kd hgr
          go_wp2_with fail
          go_region_law
            (go_simp; go_at_call 39
             refine (HCL.out w1.drew (below_drewN (Below.refl _ w1) 1)).mono ?_
             rintro e w2 ⟨v2, rfl, hown2, hb2⟩
             have hb2 : Below w1.heap.size w1 w2 := below_call (below_drewN (Below.refl _ w1) 1) hb2 (Nat.le_refl _)
             have hn2 := (hb2.block b (blk_lt HN1.out)).trans HN1.out
             have c3 := cell_blk_some hn2 (i := 2) rfl
             have g3 := free_blk (i := 2) hn2
             obtain ⟨va2, vc2, rfl⟩ := own_shape hown2
             have HB2 := Lib.hid hb2; have HN2 := Lib.hid hn2; have HO2 := Lib.hid hown2
             clear hb2 hn2 hown2
             dsimp only)
          all_goals
            have hn3 := blk_set (i := 2) HN2.out (.slice va2 K vc2)
            have hf3 : Fr (fun x => x = b) w2 (w2.setCell ⟨b, 2, none⟩ (.slice va2 K vc2)) := (Fr.refl (fun x => x = b) w2).setCell ⟨b, 2, none⟩ rfl _
            have ho3 := own_frame HO2.out hf3 fun g' hg' e => by
              have := (World.ownsRow.lt HO2.out g' hg').1
              have h9 : w1.heap.size ≤ g' := this
              have := blk_lt HN1.out
              omega
            have HG3 := Lib.hid (HGR.out _ _ hn3 (own_mono ho3 (Nat.zero_le _)))
            have HN3 := Lib.hid hn3; have HF3 := Lib.hid hf3
            clear hn3 hf3 ho3
            go_wp2_with fail
            refine HG3.out.mono ?_
            rintro e w4 ⟨rfl, v4, hn4, ho4, hl4, hf4⟩
            have HN4 := Lib.hid hn4; have HO4 := Lib.hid ho4; have HL4 := Lib.hid hl4; have HF4 := Lib.hid hf4
            clear hn4 ho4 hl4 hf4 HG3 HGR HCL
            go_wp2_with fail
            go_ret
            rw [HRES.out]
            have hv2 : ∀ g', (Value.slice va2 K vc2).ownBlock = some g' → w1.heap.size ≤ g' := fun g' hg' => (World.ownsRow.lt HO2.out g' hg').1
            have hsz : w1.heap.size ≤ (w2.setCell ⟨b, 2, none⟩ (.slice va2 K vc2)).heap.size := by rw [size_set]; exact HB2.out.size
            refine ⟨rfl, HT.out.dataset HFT.out HB1.out HM.out HP.out HN4.out HO4.out ?_ ((((Fr.below HB2.out).trans (HF3.out.tell fun x hx => .inl hx)).trans' HF4.out fun y hy e => ?_))⟩
            · intro c' h'
              rcases HL4.out with e | ⟨c2, e, hc'⟩
              · exact .inr (hv2 c' (by rw [← e]; exact h'))
              · rw [h'] at e
                injection e with e
                exact .inr (by omega)
            · rcases e with e | e
              · exact .inl e
              · exact absurd (hv2 y e) (by omega)
end
end Go.Proofs.Ytoofcnehoffllaa
