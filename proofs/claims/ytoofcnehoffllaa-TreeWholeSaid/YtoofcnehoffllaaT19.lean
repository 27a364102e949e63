/- Walks of Write, Truncate. -/
import Derived.Test.YtoofcnehoffllaaT18
namespace Go.Proofs.Ytoofcnehoffllaa
open Go.RowKit

theorem fileV_eq {P : Nat → Option Nat} {M : TM} {s : ByteArray} : fileV P M s = leadV P (fileN M s) := by
  unfold fileV fileN
  cases lookN M s with
  | inr e => rfl
  | inl i =>
    dsimp only
    cases isDir M i <;> rfl
theorem file_code {M : TM} {s : ByteArray} {c : Int} (h : fileN M s = .inr c) : c ≠ 0 := by
  unfold fileN at h
  cases hq : lookN M s with
  | inr e => rw [hq] at h; injection h with h; rw [← h]; exact look_code hq
  | inl i =>
    rw [hq] at h
    dsimp only at h
    split at h
    · injection h with h; omega
    · cases h
theorem file_in {M : TM} {s : ByteArray} {i : Nat} (h : fileN M s = .inl i) : lookN M s = .inl i ∧ isDir M i = false := by
  unfold fileN at h
  cases hq : lookN M s with
  | inr e => rw [hq] at h; cases h
  | inl j =>
    rw [hq] at h
    dsimp only at h
    split at h
    · cases h
    · rename_i hd
      injection h with h
      subst h
      exact ⟨rfl, by simpa using hd⟩
/-- Bytes written over others, zeros between. -/
def wrData (d : List Int) (at_ : Nat) (x : List Int) : List Int := splice (sizedN d (max d.length (at_ + x.length))) at_ x
theorem u8s_splice (l : List Int) (o : Nat) (x : List Int) : splice (u8s l) o (u8s x) = u8s (splice l o x) := by
  unfold splice u8s
  simp
theorem splice_take {α : Type} (L : List α) (p K : Nat) (c : List α) (h : p + c.length ≤ K) : (splice L p c).take K = splice (L.take K) p c := by
  unfold splice
  apply List.ext_getElem?
  intro j
  simp only [List.getElem?_take, List.getElem?_append, List.length_take, List.getElem?_drop]
  grind
/-- What Write answers, and what the tree is then. -/
def writeN (M : TM) (s : ByteArray) (at_ : Int) (x : List Int) : Int × TM := match fileN M s with
  | .inr c => (c, M)
  | .inl i => if at_ < 0 ∨ 4096 < x.length then (22, M) else if 38400 - (x.length : Int) < at_ then (27, M) else if x.length = 0 then (0, M) else (0, setN M i (lkN M i) (wrData (datN M i) at_.toNat x))
/-- What Truncate answers, and what the tree is then. -/
def truncN (M : TM) (s : ByteArray) (k : Int) : Int × TM := match fileN M s with
  | .inr c => (c, M)
  | .inl i => if k < 0 then (22, M) else if 38400 < k then (27, M) else (0, setN M i (lkN M i) (sizedN (datN M i) k.toNat))
section
variable {w w' : World} {tb nb cap : Nat} {P E : Nat → Option Nat} {V : Nat → Value} {M : TM}
/-- A node's data turned: the tree then. -/
theorem TIn.dataset (h : TIn w tb nb cap P E V M) {F : Nat → Prop} (hFt : ∀ b, TFoot tb nb P E V b → F b) {w5 : World} (h5 : Below w.heap.size w w5) {i b : Nat} {nd : Nd} {v : Value} {d : List Int} (hm : M i = some nd) (hp : P i = some b)
    (hnode : w'.heap[b]? = some (.cells #[.int .i64 i, .map (E i), v, .int .i64 nd.links] 67 (0, 0))) (hown : w'.ownsRow 0 5 1 v d.length (u8s d))
    (hl : ∀ c, v.ownBlock = some c → (V i).ownBlock = some c ∨ w5.heap.size ≤ c) (hfr : Fr (fun x => x = b ∨ (V i).ownBlock = some x) w5 w') : TLeft w w' tb cap F (setN M i (lkN M i) d) := by
  have h5' := h.below h5
  have hn := h5'.nodeset (l := nd.links) hm hp hnode hown (fun j c h1 h2 => by
    rcases hl c h1 with e | hc'
    · exact h5'.vin j i c h2 e
    · cases hmj : M j with
      | none => rw [(h5'.eno j hmj).2] at h2; cases h2
      | some q =>
        have := (World.ownsRow.lt (h5'.data j q hmj) c h2).2
        omega) hfr
  rw [← lkN_of hm] at hn
  refine ⟨⟨nb, P, E, _, hn, fun x hx => ?_⟩, (Fr.below h5).trans (hfr.tell fun x hx => ?_)⟩
  · rcases hx with h | h | h | h | ⟨j, h⟩
    · exact .inl (hFt _ (.inl h))
    · exact .inl (hFt _ (.inr (.inl h)))
    · exact .inl (hFt _ (.inr (.inr (.inl h))))
    · exact .inl (hFt _ (.inr (.inr (.inr (.inl h)))))
    · unfold updV' at h
      split at h
      · rcases hl _ h with e | hc'
        · exact .inl (hFt _ (.inr (.inr (.inr (.inr ⟨i, e⟩)))))
        · have := h5.size
          exact .inr (by omega)
      · exact .inl (hFt _ (.inr (.inr (.inr (.inr ⟨j, h⟩)))))
  · rcases hx with h | h
    · exact hFt _ (.inr (.inr (.inl ⟨i, by rw [h]; exact hp⟩)))
    · exact hFt _ (.inr (.inr (.inr (.inr ⟨i, h⟩))))
set_option maxHeartbeats 2000000 in
set_option maxRecDepth 100000 in
theorem write_any {F : Nat → Prop} (hAt : TAt w tb cap F M) (hG : TG M cap) (s : ByteArray) (hs : s.size ≤ 1000000) (at_ : Int) (hat : -9223372036854775808 ≤ at_ ∧ at_ ≤ 9223372036854775807) {dv : Value} {x : List Int}
    (hx : SrcG 1 w dv x.length (u8s x)) (hxF : 0 < x.length → ∀ a c ad, dv = .slice a x.length c → a = some ad → ¬ F ad.block) (hxl : x.length ≤ 1000000) :
    Calls Try.prog 21 #[.pointer (some ⟨tb, 0, none⟩), .string s, .int .i64 at_, dv] w fun e w' => e = .returned (.int .i64 (writeN M s at_ x).1) ∧ TLeft w w' tb cap F (writeN M s at_ x).2 := by
  obtain ⟨nb, P, E, V, h, hFt⟩ := hAt
  have HFT := Lib.hid hFt; have HT := Lib.hid h; have HG := Lib.hid hG; have HX := Lib.hid hx; have HXF := Lib.hid hxF
  have hf := file_any h s hs
  rw [fileV_eq] at hf
  have HF := Lib.hid hf
  have HW : Hid (writeN M s at_ x = match fileN M s with
    | .inr c => (c, M)
    | .inl i => if at_ < 0 ∨ 4096 < x.length then (22, M) else if 38400 - (x.length : Int) < at_ then (27, M) else if x.length = 0 then (0, M) else (0, setN M i (lkN M i) (wrData (datN M i) at_.toNat x))) := Lib.hid rfl
  obtain ⟨xa, xc, rfl⟩ : ∃ a c, dv = .slice a x.length c := by
    obtain ⟨a, c, e, _⟩ := hx
    exact ⟨a, c, e⟩
  obtain ⟨a1, a2⟩ := hat
  have hxl' : (x.length : Int) ≤ 1000000 := by omega
  clear hFt h hG hf hs hx hxF
  cases hq : fileN M s with
  | inr c =>
    have hc := file_code hq
    have HRES : Hid (writeN M s at_ x = (c, M)) := Lib.hid (by rw [HW.out, hq])
    rw [hq] at HF
    have hc2 : (c != 0) = true := by simp [hc]
    clear hq hc HW
    unfold leadV at HF
    go_enter Try.func21, Try.ntmps21
    go_wp2_with fail
    refine HF.out.mono ?_
    rintro e w1 ⟨rfl, hb1⟩
    have HLT := Lib.hid (TLeft.same HT.out HFT.out hb1)
    clear hb1 HF
    go_wp2_with fail
    go_ret
    rw [HRES.out]
    exact ⟨rfl, HLT.out⟩
  | inl i =>
    obtain ⟨hlk, hdi⟩ := file_in hq
    have hi := look_isin HT.out hlk
    obtain ⟨nd, hm⟩ := Option.isSome_iff_exists.1 hi
    obtain ⟨b, hp, _⟩ := HT.out.at_ hm
    have HLV : leadV P (.inl i) = .tuple #[.pointer (some ⟨b, 0, none⟩), .int .i64 0] := by show Value.tuple #[nptr (P i), _] = _; rw [hp]; rfl
    have hw2 : writeN M s at_ x = if at_ < 0 ∨ 4096 < x.length then (22, M) else if 38400 - (x.length : Int) < at_ then (27, M) else if x.length = 0 then (0, M) else (0, setN M i (lkN M i) (wrData (datN M i) at_.toNat x)) := by rw [HW.out, hq]
    have HW2 := Lib.hid hw2
    rw [hq, HLV] at HF
    have HM := Lib.hid hm; have HP := Lib.hid hp
    clear hq hlk hdi hi hm hp HLV hw2 HW
    by_cases h1 : at_ < 0
    · have HRES : Hid (writeN M s at_ x = (22, M)) := Lib.hid (by rw [HW2.out, if_pos (.inl h1)])
      clear HW2
      go_enter Try.func21, Try.ntmps21
      go_wp2_with fail
      refine HF.out.mono ?_
      rintro e w1 ⟨rfl, hb1⟩
      have HLT := Lib.hid (TLeft.same HT.out HFT.out hb1)
      clear hb1 HF
      go_wp2_with fail
      go_ret
      rw [HRES.out]
      exact ⟨rfl, HLT.out⟩
    · have g1 : decide (at_ < 0) = false := dec_false h1
      by_cases h2 : 4096 < x.length
      · have HRES : Hid (writeN M s at_ x = (22, M)) := Lib.hid (by rw [HW2.out, if_pos (.inr h2)])
        have g2 : (4096 : Int) < (x.length : Int) := by omega
        clear HW2
        go_enter Try.func21, Try.ntmps21
        go_wp2_with fail
        refine HF.out.mono ?_
        rintro e w1 ⟨rfl, hb1⟩
        have HLT := Lib.hid (TLeft.same HT.out HFT.out hb1)
        clear hb1 HF
        go_wp2_with fail
        go_ret
        rw [HRES.out]
        exact ⟨rfl, HLT.out⟩
      · have g2 : ¬ (4096 : Int) < (x.length : Int) := by omega
        have hw1 : IntKind.i64.wrap (38400 - (x.length : Int)) = 38400 - (x.length : Int) := IntWalk.i64_in _ (by omega)
        by_cases h3 : 38400 - (x.length : Int) < at_
        · have HRES : Hid (writeN M s at_ x = (27, M)) := Lib.hid (by rw [HW2.out, if_neg (by omega), if_pos h3])
          clear HW2
          go_enter Try.func21, Try.ntmps21
          go_wp2_with fail
          refine HF.out.mono ?_
          rintro e w1 ⟨rfl, hb1⟩
          have HLT := Lib.hid (TLeft.same HT.out HFT.out hb1)
          clear hb1 HF
          go_wp2_with fail
          go_ret
          rw [HRES.out]
          exact ⟨rfl, HLT.out⟩
        · by_cases h4 : x.length = 0
          · have HRES : Hid (writeN M s at_ x = (0, M)) := Lib.hid (by rw [HW2.out, if_neg (by omega), if_neg h3, if_pos h4])
            have g4 : (x.length : Int) = 0 := by omega
            clear HW2
            go_enter Try.func21, Try.ntmps21
            go_wp2_with fail
            refine HF.out.mono ?_
            rintro e w1 ⟨rfl, hb1⟩
            have HLT := Lib.hid (TLeft.same HT.out HFT.out hb1)
            clear hb1 HF
            go_wp2_with fail
            go_ret
            rw [HRES.out]
            exact ⟨rfl, HLT.out⟩
          · have HRES : Hid (writeN M s at_ x = (0, setN M i (lkN M i) (wrData (datN M i) at_.toNat x))) := Lib.hid (by rw [HW2.out, if_neg (by omega), if_neg h3, if_neg h4])
            have g4 : (0 : Int) < (x.length : Int) := by omega
            obtain ⟨p, hpn⟩ : ∃ p : Nat, at_ = p := ⟨at_.toNat, by omega⟩
            subst hpn
            have hdb := HG.out.byt i
            rw [datN_of HM.out] at hdb HRES
            clear HW2
            go_enter Try.func21, Try.ntmps21
            go_wp2_with fail
            refine HF.out.mono ?_
            rintro e w1 ⟨rfl, hb1⟩
            have hn1 := (HT.out.below hb1).node i b nd HP.out HM.out
            have hd1 := (HT.out.below hb1).data i nd HM.out
            have c2 := cell_blk_some hn1 (i := 2) rfl
            have HB1 := Lib.hid hb1; have HN1 := Lib.hid hn1; have HD1 := Lib.hid hd1
            obtain ⟨va, vc, hva⟩ := own_shape hd1
            rw [hva] at c2
            have d1 : (nd.data.length : Int) ≤ 38400 := by omega
            clear hb1 HF hn1 hd1 hdb
            go_wp2_with fail
            obtain ⟨K, hK⟩ : ∃ K, K = max nd.data.length (p + x.length) := ⟨_, rfl⟩
            have hKi : max ((nd.data.length : Nat) : Int) ((p : Int) + (x.length : Int)) = (K : Int) := by omega
            have HKI := Lib.hid hKi; have HK := Lib.hid hK
            have hK1 : p + x.length ≤ K := by omega
            have hK2 : K ≤ 40000 := by omega
            clear hKi hK
            rw [HKI.out]
            refine (grow_any (k := K) HN1.out HD1.out (by omega) (by omega)).mono ?_
            rintro e w2 ⟨rfl, v2, hn2, ho2, hl2, hf2⟩
            rw [sizedN_length] at ho2
            have hS1 : ∀ y, (y = b ∨ (V i).ownBlock = some y) → F y := fun y hy => by
              rcases hy with h | h
              · exact HFT.out y (.inr (.inr (.inl ⟨i, by rw [h]; exact HP.out⟩)))
              · exact HFT.out y (.inr (.inr (.inr (.inr ⟨i, h⟩))))
            have hx2 : SrcG 1 w2 (.slice xa x.length xc) x.length (u8s x) := (HX.out.below HB1.out).fr hf2 fun h0 a c ad e1 e2 h3 => HXF.out h0 a c ad e1 e2 (hS1 _ h3)
            obtain ⟨xa', xc', e1, -, -, hcells⟩ := hx2
            injection e1 with e1 _ e3
            subst e1 e3
            obtain ⟨ad, rfl, hcells2⟩ := hcells (by omega)
            have hne : v2.ownBlock ≠ some b := own_off ho2 hn2 (by decide)
            rcases ho2.2 with ⟨-, h0⟩ | ⟨g, c, cur, rfl, -, hg, hgc, hgm, hgs, hgt⟩
            · omega
            have hgs' : cur.size = c := by omega
            have c3 := cell_blk_some hn2 (i := 2) rfl
            have m1 : (K : Int) ≤ (c : Int) := by omega
            have m0 : (0 : Int) ≤ (p : Int) := by omega
            have m2 : (p : Int) ≤ (K : Int) := by omega
            have m3 : ¬ c = p := by omega
            have HFI : Hid (p + (u8s x).length ≤ cur.size) := Lib.hid (by rw [u8s_length]; omega)
            have HNN : Hid ((u8s x).length = Nat.min x.length (K - p)) := Lib.hid (by rw [u8s_length]; show _ = min _ _; omega)
            have HG2 := Lib.hid hg; have HC2 := Lib.hid hcells2; have HN2 := Lib.hid hn2; have HO2 := Lib.hid ho2; have HL2 := Lib.hid hl2; have HF2 := Lib.hid hf2; have HNE := Lib.hid hne; have HGT := Lib.hid hgt
            clear hg hcells hcells2 hn2 ho2 hl2 hf2 hne hgt c2 hS1
            go_wp2_with (refine wpList_copy_own rfl (.tmp 55) (.tmp 56) 29 29 rfl 5 Try.underlying29 (by kernel_rfl) g p (K - p) (c - p) ad x.length xc rfl rfl cur 5 HG2.out (u8s x) HNN.out HC2.out HFI.out (u8s_one x) ?_)
            go_ret
            rw [HRES.out]
            refine ⟨rfl, ?_⟩
            have hgb : b ≠ g := fun e => HNE.out (by rw [e]; rfl)
            have hfr : Fr (fun y => y = g) w2 (w2.setRow g (cur.toList.take p ++ (u8s x ++ cur.toList.drop (p + (u8s x).length))).toArray) := ⟨rfl, rfl, rfl, by simp [World.setRow], fun y _ hy => setRow_other w2 g y _ hy⟩
            have hdl : (wrData nd.data (Int.toNat p) x).length = K := by
              unfold wrData
              rw [Int.toNat_natCast, ← HK.out, length_splice _ _ _ (by rw [sizedN_length]; omega), sizedN_length]
            refine HT.out.dataset HFT.out HB1.out HM.out HP.out (v := .slice (some ⟨g, 0, none⟩) K c) ((setRow_other w2 g b _ hgb).trans HN2.out) ?_ (fun c' hc' => HL2.out.elim (fun e => .inl (by rw [← e]; exact hc')) fun ⟨c2, e, h⟩ => .inr (by rw [hc'] at e; injection e with e; omega)) (HF2.out.trans' hfr fun y hy e => ?_)
            · rw [hdl]
              refine ⟨by rw [u8s_length, hdl]; omega, .inr ⟨g, c, _, rfl, Nat.zero_le _, setRow_heap w2 g cur _ _ _ HG2.out, hgc, hgm, ?_, ?_⟩⟩
              · rw [List.size_toArray, List.length_append, List.length_append, List.length_take, List.length_drop, u8s_length, Array.length_toList]
                omega
              · have h0 : (cur.toList.take p ++ (u8s x ++ cur.toList.drop (p + (u8s x).length))).toArray.toList = splice cur.toList p (u8s x) := rfl
                rw [h0, Nat.mul_one, splice_take _ _ _ _ (by rw [u8s_length]; omega), show cur.toList.take K = u8s (sizedN nd.data K) by have := HGT.out; rw [Nat.mul_one] at this; exact this, u8s_splice]
                unfold wrData
                rw [Int.toNat_natCast, ← HK.out]
            · subst e
              rcases HL2.out with e2 | ⟨c', e2, hc'⟩
              · exact .inr (by rw [← e2]; rfl)
              · have e2 : some y = some c' := e2
                injection e2 with e2
                omega
end
end Go.Proofs.Ytoofcnehoffllaa
