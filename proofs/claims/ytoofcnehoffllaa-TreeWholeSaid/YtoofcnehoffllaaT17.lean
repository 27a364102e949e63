/- Walks of Unlink, Rmdir, Create, Mkdir, Link. -/
import Derived.Test.YtoofcnehoffllaaT16
namespace Go.Proofs.Ytoofcnehoffllaa
open Go.RowKit

section
variable {w : World} {tb nb cap : Nat} {P E : Nat → Option Nat} {V : Nat → Value} {M : TM}
theorem unlink_any {F : Nat → Prop} (hAt : TAt w tb cap F M) (hG : TG M cap) (s : ByteArray) (hs : s.size ≤ 1000000) :
    Calls Try.prog 13 #[.pointer (some ⟨tb, 0, none⟩), .string s] w fun e w' => e = .returned (.int .i64 (goneN M s false).1) ∧ TLeft w w' tb cap F (goneN M s false).2 := by
  have HK := Lib.hid (gone_any hAt hG s hs false)
  unfold askF at HK
  rw [if_neg (by decide)] at HK
  clear hAt hG hs
  generalize goneN M s false = r at *
  go_enter Try.func13, Try.ntmps13
  go_wp2_with fail
  refine HK.out.mono ?_
  rintro e w1 ⟨rfl, hl⟩
  have HL := Lib.hid hl
  clear hl
  go_wp2_with fail
  go_ret
  exact ⟨rfl, HL.out⟩
theorem rmdir_any {F : Nat → Prop} (hAt : TAt w tb cap F M) (hG : TG M cap) (s : ByteArray) (hs : s.size ≤ 1000000) :
    Calls Try.prog 14 #[.pointer (some ⟨tb, 0, none⟩), .string s] w fun e w' => e = .returned (.int .i64 (goneN M s true).1) ∧ TLeft w w' tb cap F (goneN M s true).2 := by
  have HK := Lib.hid (gone_any hAt hG s hs true)
  unfold askF at HK
  rw [if_pos rfl] at HK
  clear hAt hG hs
  generalize goneN M s true = r at *
  go_enter Try.func14, Try.ntmps14
  go_wp2_with fail
  refine HK.out.mono ?_
  rintro e w1 ⟨rfl, hl⟩
  have HL := Lib.hid hl
  clear hl
  go_wp2_with fail
  go_ret
  exact ⟨rfl, HL.out⟩
theorem create_any {F : Nat → Prop} (hAt : TAt w tb cap F M) (s : ByteArray) (hs : s.size ≤ 1000000) :
    Calls Try.prog 11 #[.pointer (some ⟨tb, 0, none⟩), .string s] w fun e w' => e = .returned (.tuple #[.int .i64 (makeN M cap s false).1, .int .i64 (makeN M cap s false).2.1]) ∧ TLeft w w' tb cap F (makeN M cap s false).2.2 := by
  have HK := Lib.hid (make_any hAt s hs false)
  clear hAt hs
  generalize makeN M cap s false = r at *
  go_enter Try.func11, Try.ntmps11
  go_wp2_with fail
  refine HK.out.mono ?_
  rintro e w1 ⟨rfl, hl⟩
  have HL := Lib.hid hl
  clear hl
  go_wp2_with fail
  go_ret2
  exact ⟨rfl, HL.out⟩
theorem mkdir_any {F : Nat → Prop} (hAt : TAt w tb cap F M) (s : ByteArray) (hs : s.size ≤ 1000000) :
    Calls Try.prog 12 #[.pointer (some ⟨tb, 0, none⟩), .string s] w fun e w' => e = .returned (.tuple #[.int .i64 (makeN M cap s true).1, .int .i64 (makeN M cap s true).2.1]) ∧ TLeft w w' tb cap F (makeN M cap s true).2.2 := by
  have HK := Lib.hid (make_any hAt s hs true)
  clear hAt hs
  generalize makeN M cap s true = r at *
  go_enter Try.func12, Try.ntmps12
  go_wp2_with fail
  refine HK.out.mono ?_
  rintro e w1 ⟨rfl, hl⟩
  have HL := Lib.hid hl
  clear hl
  go_wp2_with fail
  go_ret2
  exact ⟨rfl, HL.out⟩
end
/-- What Link answers, and what the tree is then. -/
def linkN (M : TM) (old s : ByteArray) : Int × TM :=
  if splitE old ≠ 0 then (splitE old, M) else if parE s ≠ 0 then (parE s, M) else match lookN M old with
    | .inr c => (c, M)
    | .inl i => if isDir M i then (1, M) else if freshC M s false ≠ 0 then (freshC M s false, M) else if lkN M i = 100 then (31, M) else match leadN M 2 (parN s) with
      | .inr _ => (0, M)
      | .inl p => (0, linkM M p (parL s) i)
section
variable {w w' : World} {tb nb cap : Nat} {P E : Nat → Option Nat} {V : Nat → Value} {M : TM}
theorem entF_set {f : ByteArray → Option Nat} {i : Nat} {s : ByteArray} : entF P (updE f s (some i)) = putK (entF P f) s (nptr (P i)) := by
  funext x
  by_cases e : x = s
  · subst e
    rw [putK_self]
    unfold entF updE
    rw [if_pos rfl]; rfl
  · rw [putK_other e]
    unfold entF updE
    rw [if_neg e]
/-- A place that is fresh: its parent. -/
theorem fresh_good {s : ByteArray} {dir : Bool} (h : TIn w tb nb cap P E V M) (hc : freshC M s dir = 0) : placeC M s = 0 ∧ parE s = 0 ∧ ∃ p bp eb nd f, leadN M 2 (parN s) = .inl p ∧ M p = some nd ∧ nd.ents = some f ∧ isDir M p = true ∧ P p = some bp ∧ E p = some eb ∧ entN M p (parL s) = none ∧ placeV P M s = .tuple #[placeA (.pointer (some ⟨bp, 0, none⟩)) (parL s) (splitD s) (longN (parN s ++ [parL s])), .int .i64 0] := by
  have hpc : placeC M s = 0 := by
    unfold freshC at hc
    by_cases q : placeC M s = 0
    · exact q
    · rw [if_pos q] at hc; exact hc
  have hpe : parE s = 0 := by
    unfold placeC at hpc
    by_cases q : parE s = 0
    · exact q
    · rw [if_pos q] at hpc; exact hpc
  refine ⟨hpc, hpe, ?_⟩
  rcases place_ways h s with ⟨q, _⟩ | ⟨_, p, bp, eb, nd, hl, hm, hd, hp, he, hv⟩
  · exact absurd hpc q
  · have hdd : isDir M p = true := by rw [isDir_of hm]; exact hd
    unfold Nd.dir at hd
    obtain ⟨f, hf⟩ := Option.isSome_iff_exists.1 hd
    refine ⟨p, bp, eb, nd, f, hl, hm, hf, hdd, hp, he, ?_, hv⟩
    unfold freshC at hc
    rw [if_neg (by rw [hpc]; simp), hl] at hc
    have hc : (if (entN M p (parL s)).isSome then (17 : Int) else if splitD s && !dir then 21 else if dir && decide (255 ≤ longN (parN s ++ [parL s])) then 36 else 0) = 0 := hc
    cases hq : entN M p (parL s) with
    | none => rfl
    | some j => rw [hq] at hc; simp at hc
set_option maxHeartbeats 4000000 in
set_option maxRecDepth 100000 in
theorem link_any {F : Nat → Prop} (hAt : TAt w tb cap F M) (hG : TG M cap) (old s : ByteArray) (ho : old.size ≤ 1000000) (hs : s.size ≤ 1000000) :
    Calls Try.prog 17 #[.pointer (some ⟨tb, 0, none⟩), .string old, .string s] w fun e w' => e = .returned (.int .i64 (linkN M old s).1) ∧ TLeft w w' tb cap F (linkN M old s).2 := by
  obtain ⟨nb, P, E, V, h, hFt⟩ := hAt
  have HFT := Lib.hid hFt; have HT := Lib.hid h; have HG := Lib.hid hG; have HSZ := Lib.hid hs; have HOZ := Lib.hid ho
  have HS := Lib.hid (split_any old ho w)
  have HLN : Hid (linkN M old s = if splitE old ≠ 0 then (splitE old, M) else if parE s ≠ 0 then (parE s, M) else match lookN M old with
    | .inr c => (c, M)
    | .inl i => if isDir M i then (1, M) else if freshC M s false ≠ 0 then (freshC M s false, M) else if lkN M i = 100 then (31, M) else match leadN M 2 (parN s) with
      | .inr _ => (0, M)
      | .inl p => (0, linkM M p (parL s) i)) := Lib.hid rfl
  clear hFt h hG hs ho
  unfold SplitPost at HS
  by_cases hE : splitE old = 0
  · have HE := Lib.hid hE
    rw [hE] at HS
    clear hE
    go_enter Try.func17, Try.ntmps17
    go_wp2_with fail
    refine HS.out.mono ?_
    rintro e w1 ⟨v, rfl, -, hb1⟩
    have HB1 := Lib.hid hb1
    have HP := Lib.hid (parent_any s HSZ.out w1)
    unfold ParPost at HP
    clear hb1 HS
    by_cases hPE : parE s = 0
    · have HPE := Lib.hid hPE
      rw [hPE] at HP
      clear hPE
      go_wp2_with fail
      refine HP.out.mono ?_
      rintro e w2 ⟨v2, rfl, -, hb2, -⟩
      have HB2 := Lib.hid (below_call HB1.out hb2 (Nat.le_refl _))
      have HL := Lib.hid (look_any (HT.out.below HB2.out) old HOZ.out)
      clear hb2 HP HB1
      go_wp2_with fail
      refine HL.out.mono ?_
      rintro e w3 ⟨rfl, hb3⟩
      have HB3 := Lib.hid (below_call HB2.out hb3 (Nat.le_refl _))
      have H3 := Lib.hid (HT.out.below HB3.out)
      clear hb3 HL HB2
      cases hq : lookN M old with
      | inr c =>
        have hc := look_code hq
        have HRES : Hid (linkN M old s = (c, M)) := Lib.hid (by rw [HLN.out, if_neg (by rw [HE.out]; simp), if_neg (by rw [HPE.out]; simp), hq])
        have hc2 : (c != 0) = true := by simp [hc]
        have HLT := Lib.hid (TLeft.same HT.out HFT.out HB3.out)
        clear hq hc HLN
        unfold leadV
        go_wp2_with fail
        go_ret
        rw [HRES.out]
        exact ⟨rfl, HLT.out⟩
      | inl i =>
        have hi := look_isin HT.out hq
        have hln : linkN M old s = if isDir M i then (1, M) else if freshC M s false ≠ 0 then (freshC M s false, M) else if lkN M i = 100 then (31, M) else match leadN M 2 (parN s) with
          | .inr _ => (0, M)
          | .inl p => (0, linkM M p (parL s) i) := by rw [HLN.out, if_neg (by rw [HE.out]; simp), if_neg (by rw [HPE.out]; simp), hq]
        have HLN2 := Lib.hid hln
        have HD := Lib.hid (dir_any H3.out hi)
        obtain ⟨ndi, hmi⟩ := Option.isSome_iff_exists.1 hi
        obtain ⟨bi, hpi, _⟩ := H3.out.at_ hmi
        have HLV : Hid (leadV P (.inl i) = .tuple #[.pointer (some ⟨bi, 0, none⟩), .int .i64 0]) := Lib.hid (by show Value.tuple #[nptr (P i), _] = _; rw [hpi]; rfl)
        have HPI := Lib.hid hpi; have HMI := Lib.hid hmi
        rw [hpi] at HD
        rw [HLV.out]
        unfold nptr at HD
        clear hq hi hmi hpi HLV HLN hln
        cases hdi : isDir M i with
        | true =>
          have HRES : Hid (linkN M old s = (1, M)) := Lib.hid (by rw [HLN2.out, hdi]; rfl)
          have HLT := Lib.hid (TLeft.same HT.out HFT.out HB3.out)
          rw [hdi] at HD
          clear HLN2 hdi
          go_wp2_with fail
          refine HD.out.mono ?_
          rintro e w4 ⟨rfl, rfl⟩
          go_wp2_with fail
          go_ret
          rw [HRES.out]
          exact ⟨rfl, HLT.out⟩
        | false =>
          have HLN3 : Hid (linkN M old s = if freshC M s false ≠ 0 then (freshC M s false, M) else if lkN M i = 100 then (31, M) else match leadN M 2 (parN s) with
            | .inr _ => (0, M)
            | .inl p => (0, linkM M p (parL s) i)) := Lib.hid (by rw [HLN2.out, hdi]; rfl)
          have HDI := Lib.hid hdi
          have HF := Lib.hid (fresh_any H3.out s HSZ.out false)
          rw [hdi] at HD
          clear HLN2 hdi
          go_wp2_with fail
          refine HD.out.mono ?_
          rintro e w4 ⟨rfl, rfl⟩
          clear HD
          by_cases hc : freshC M s false = 0
          · obtain ⟨hpc, _, p, bp, eb, nd, f, hl, hm, hf, hd, hp, he, hn, hv⟩ := fresh_good H3.out hc
            have HPC := Lib.hid hpc
            have HV := Lib.hid hv
            have HPP := Lib.hid hp; have HEE := Lib.hid he; have HM := Lib.hid hm; have HDD := Lib.hid hd; have HFF := Lib.hid hf; have HN := Lib.hid hn; have HLD := Lib.hid hl
            have HLN4 : Hid (linkN M old s = if lkN M i = 100 then (31, M) else (0, linkM M p (parL s) i)) := Lib.hid (by rw [HLN3.out, if_neg (by rw [hc]; simp), hl])
            rw [hc] at HF
            clear hc hpc hl hm hf hd hp he hn hv HLN3
            go_wp2_with fail
            refine HF.out.mono ?_
            rintro e w5 ⟨⟨pa, hpv, rfl⟩, hb5⟩
            rw [HPC.out] at hpv
            obtain rfl := place_of hpv HV.out
            have OX : Hid ((w5.alloc (.cells #[.pointer (some ⟨bp, 0, none⟩), .string (parL s), .bool (splitD s), .int .i64 (longN (parN s ++ [parL s]))] 81)).heap[w5.heap.size]? = some (.cells #[.pointer (some ⟨bp, 0, none⟩), .string (parL s), .bool (splitD s), .int .i64 (longN (parN s ++ [parL s]))] 81 (0, 0))) := Lib.hid (blk_new rfl)
            have HBA := Lib.hid (below_call (below_call HB3.out hb5 (Nat.le_refl _)) (show Below w5.heap.size w5 (w5.alloc (.cells #[.pointer (some ⟨bp, 0, none⟩), .string (parL s), .bool (splitD s), .int .i64 (longN (parN s ++ [parL s]))] 81)) from (Below.refl _ w5).alloc (Nat.le_refl _) _) (Nat.le_refl _))
            have HX0 : Hid (w.heap.size ≤ w5.heap.size) := Lib.hid (Nat.le_trans HB3.out.size hb5.size)
            clear hb5 hpv HF
            unfold placeA
            obtain ⟨w6, hw6⟩ : ∃ w6, w6 = (w5.alloc (.cells #[.pointer (some ⟨bp, 0, none⟩), .string (parL s), .bool (splitD s), .int .i64 (longN (parN s ++ [parL s]))] 81)) := ⟨_, rfl⟩
            obtain ⟨xb, hxb⟩ : ∃ xb, xb = w5.heap.size := ⟨_, rfl⟩
            rw [← hw6, ← hxb] at OX
            rw [← hw6] at HBA
            have HW6 := Lib.hid hw6; have HXB := Lib.hid hxb
            clear hw6 hxb
            have H6 := Lib.hid (HT.out.below HBA.out)
            have hni := H6.out.node i bi ndi HPI.out HMI.out
            have c3 := cell_blk_some hni (i := 3) rfl
            have g3 := free_blk (i := 3) hni
            have hlk := HG.out.lk i (by rw [HMI.out]; rfl)
            have HLKN := Lib.hid (lkN_of HMI.out)
            rw [HLKN.out] at hlk HLN4
            obtain ⟨l1, l2, -⟩ := hlk
            by_cases h100 : ndi.links = 100
            · have HRES : Hid (linkN M old s = (31, M)) := Lib.hid (by rw [HLN4.out, if_pos h100])
              have HLT := Lib.hid (TLeft.same HT.out HFT.out HBA.out)
              rw [h100, HW6.out] at c3
              clear HLN4 hni h100 l1 l2 HLKN g3
              go_wp2_with fail
              rw [← HW6.out]
              go_ret
              rw [HRES.out]
              exact ⟨rfl, HLT.out⟩
            · have HRES : Hid (linkN M old s = (0, linkM M p (parL s) i)) := Lib.hid (by rw [HLN4.out, if_neg h100])
              have HLK1 : Hid (lkN M i ≠ 100) := Lib.hid (by rw [HLKN.out]; exact h100)
              have hc3 : (ndi.links == 100) = false := by simp [h100]
              have hnb := blk_set (i := 3) hni (.int .i64 (ndi.links + 1))
              have hfr : Fr (fun x => x = bi) w6 (w6.setCell ⟨bi, 3, none⟩ (.int .i64 (ndi.links + 1))) := (Fr.refl (fun x => x = bi) w6).setCell ⟨bi, 3, none⟩ rfl _
              have h7 : TIn (w6.setCell ⟨bi, 3, none⟩ (.int .i64 (ndi.links + 1))) tb nb cap P E (updV' V i (V i)) (setN M i (ndi.links + 1) ndi.data) := H6.out.nodeset HMI.out HPI.out hnb
                (own_frame (H6.out.data i ndi HMI.out) hfr fun g hg e => by
                  rcases (H6.out.data i ndi HMI.out).2 with hh | ⟨g2, cap', cur, e2, h1, hgg, hr'⟩
                  · rw [hh.1] at hg; cases hg
                  · rw [e2] at hg
                    injection hg with hg
                    have hg : g2 = g := hg
                    rw [hg, e, hni] at hgg
                    injection hgg with hgg
                    injection hgg with _ hgg _
                    exact absurd hgg (by decide)) (fun j c h1 h2' => H6.out.vin j i c h2' h1) (hfr.tell fun x hx => .inl hx)
              have hox : (w6.setCell ⟨bi, 3, none⟩ (.int .i64 (ndi.links + 1))).heap[xb]? = _ := blk_set_other OX.out (fun e => by
                have e : xb = bi := e
                have hx := OX.out
                rw [e, hni] at hx
                injection hx with hx
                injection hx with _ hx _
                exact absurd hx (by decide)) _
              have hw : IntKind.i64.wrap (ndi.links + 1) = ndi.links + 1 := IntWalk.i64_in _ (by omega)
              have H7 := Lib.hid h7; have HOX := Lib.hid hox; have HF7 := Lib.hid hfr
              clear hni hnb hfr h7 hox HLN4 h100 l1 l2
              rw [HW6.out] at c3 g3
              go_wp2_with fail
              rw [← HW6.out, ← HXB.out]
              have hdl : setN M i (ndi.links + 1) ndi.data = setN M i (lkN M i + 1) (datN M i) := by rw [HLKN.out, datN_of HMI.out]
              generalize (w6.setCell ⟨bi, 3, none⟩ (.int .i64 (ndi.links + 1))) = w7 at *
              clear c3 g3 hc3 hw
              rw [hdl] at H7
              obtain ⟨nq, hmq⟩ : ∃ nq, setN M i (lkN M i + 1) (datN M i) p = some nq := Option.isSome_iff_exists.1 (by rw [some_setN, HM.out]; rfl)
              have heq : entN (setN M i (lkN M i + 1) (datN M i)) p = f := by funext t; rw [entN_setN]; exact congrFun (ent_fun HM.out HFF.out) t
              have hqd : isDir (setN M i (lkN M i + 1) (datN M i)) p = true := isDir_setN.trans HDD.out
              obtain ⟨nq', fq, hmq', hfq⟩ := isDir_there hqd
              rw [hmq] at hmq'
              injection hmq' with hmq'
              subst hmq'
              have hff : fq = f := by rw [← ent_fun hmq hfq]; exact heq
              subst hff
              have hMp : MapIs Value.string w7 eb (entF P fq) := by
                have := H7.out.ents p nq hmq
                rw [hfq] at this
                obtain ⟨eb', he', hM'⟩ := this
                rw [HEE.out] at he'
                injection he' with he'
                rw [he']; exact hM'
              have hbp := H7.out.node p bp nq HPP.out hmq
              rw [HEE.out] at hbp
              obtain ⟨w8, hput, hM8, hf8⟩ := (hMp.same (w' := w7.drew) rfl).put klS Try.underlying65 (parL s) (nptr (P i))
              rw [← entF_set] at hM8
              have hf78 : Fr (fun x => x = eb) w7 w8 := ((Fr.refl _ w7).drew).trans hf8
              have hv8 : ∀ t j, updE fq (parL s) (some i) t = some j → (setN M i (lkN M i + 1) (datN M i) j).isSome = true := fun t j ht => by
                rw [some_setN]
                unfold updE at ht
                split at ht
                · injection ht with ht; rw [← ht, HMI.out]; rfl
                · exact HG.out.ok.ent p t j (by rw [ent_fun HM.out HFF.out]; exact ht)
              have h8 := H7.out.mapset hmq hfq HEE.out hM8 hv8 hf78
              have hlm : setE (setN M i (lkN M i + 1) (datN M i)) p (updE fq (parL s) (some i)) = linkM M p (parL s) i := by unfold linkM; rw [ent_fun HM.out HFF.out]
              rw [hlm] at h8
              have x0 := cell_blk_some HOX.out (i := 0) rfl
              have x1 := cell_blk_some HOX.out (i := 1) rfl
              have m1 := cell_blk_some hbp (i := 1) rfl
              rw [HPI.out] at hput
              unfold nptr at hput
              rw [Option.map_some] at hput
              have H8 := Lib.hid h8; have HF8 := Lib.hid hf78
              clear hdl hmq heq hqd hfq hMp hbp hM8 hf8 hf78 hv8 h8 hlm
              go_still_tail 8, (by kernel_rfl)
              change wpList _ _ _ _ _ w7.drew
              go_wp2_with fail
              go_ret
              rw [HRES.out]
              refine ⟨rfl, ⟨nb, P, E, _, H8.out, fun x hx => .inl (HFT.out x ?_)⟩, ?_⟩
              · rcases hx with h | h | h | h | ⟨j, h⟩
                · exact .inl h
                · exact .inr (.inl h)
                · exact .inr (.inr (.inl h))
                · exact .inr (.inr (.inr (.inl h)))
                · refine .inr (.inr (.inr (.inr ⟨j, ?_⟩)))
                  unfold updV' at h
                  split at h
                  · rename_i e; rw [e]; exact h
                  · exact h
              · refine ((Fr.below HBA.out).trans (HF7.out.tell fun x hx => ?_)).trans (HF8.out.tell fun x hx => ?_)
                · exact HFT.out x (.inr (.inr (.inl ⟨i, by rw [hx]; exact HPI.out⟩)))
                · exact HFT.out x (.inr (.inr (.inr (.inl ⟨p, by rw [hx]; exact HEE.out⟩))))
          · have HRES : Hid (linkN M old s = (freshC M s false, M)) := Lib.hid (by rw [HLN3.out, if_pos hc])
            have hce : (freshC M s false != 0) = true := by simp [hc]
            generalize freshC M s false = fc at *
            clear hc HLN3
            go_wp2_with fail
            refine HF.out.mono ?_
            rintro e w5 ⟨⟨pa, hpv, rfl⟩, hb5⟩
            obtain ⟨po, pl, pb, pn, rfl⟩ := place_pa hpv
            have HLT := Lib.hid (TLeft.same HT.out HFT.out (below_call (below_call HB3.out hb5 (Nat.le_refl _)) (show Below w5.heap.size w5 (w5.alloc (.cells #[.pointer po, .string pl, .bool pb, .int .i64 pn] 81)) from (Below.refl _ w5).alloc (Nat.le_refl _) _) (Nat.le_refl _)))
            clear hb5 hpv HF
            unfold placeA
            go_wp2_with fail
            go_ret
            rw [HRES.out]
            exact ⟨rfl, HLT.out⟩
    · have HRES : Hid (linkN M old s = (parE s, M)) := Lib.hid (by rw [HLN.out, if_neg (by rw [HE.out]; simp), if_pos hPE])
      have hc2 : (parE s != 0) = true := by simp [hPE]
      generalize parE s = c at *
      clear hPE HLN
      go_wp2_with fail
      refine HP.out.mono ?_
      rintro e w2 ⟨v2, rfl, -, hb2, -⟩
      have HLT := Lib.hid (TLeft.same HT.out HFT.out (below_call HB1.out hb2 (Nat.le_refl _)))
      clear hb2 HP
      go_wp2_with fail
      go_ret
      rw [HRES.out]
      exact ⟨rfl, HLT.out⟩
  · have HRES : Hid (linkN M old s = (splitE old, M)) := Lib.hid (by rw [HLN.out, if_pos hE])
    have hc2 : (splitE old != 0) = true := by simp [hE]
    generalize splitE old = c at *
    clear hE HLN
    go_enter Try.func17, Try.ntmps17
    go_wp2_with fail
    refine HS.out.mono ?_
    rintro e w1 ⟨v, rfl, -, hb1⟩
    have HLT := Lib.hid (TLeft.same HT.out HFT.out hb1)
    clear hb1 HS
    go_wp2_with fail
    go_ret
    rw [HRES.out]
    exact ⟨rfl, HLT.out⟩
end
end Go.Proofs.Ytoofcnehoffllaa
