/- .. what is told behind a pointer that is all right; walk of the closure. -/
import Derived.Test.YtklamgijikcnaaaDoorF39
namespace Go.Proofs.YtklamgijikcnaaaDoor
open Go.RowKit

section
variable {rd : Int → Option (List Int)}
theorem mem_rowE {f : Nat} {n : Int} {l : List Int} {k s : Nat} {c : Int} {x : Int × Int} (hs : s < k) (h0 : l.getD s 0 ≠ 0) (hc : childN n s = some c) (hx : x ∈ eN rd f c (l.getD s 0)) : x ∈ rowE rd f n l k := by
  unfold rowE
  refine List.mem_flatMap.2 ⟨s, List.mem_range.2 hs, ?_⟩
  unfold eS
  rw [if_neg h0, hc]
  exact hx
theorem anyP_at {l : List Int} {k : Nat} (h : anyP l k = true) : ∃ s, s < k ∧ l.getD s 0 ≠ 0 := by
  unfold anyP at h
  obtain ⟨p, hp, h0⟩ := List.any_eq_true.1 h
  obtain ⟨s, hs⟩ := List.mem_iff_getElem?.1 hp
  rw [List.getElem?_take] at hs
  split at hs
  · refine ⟨s, by assumption, ?_⟩
    rw [List.getD_eq_getElem?_getD, hs]
    simpa using h0
  · cases hs
theorem rowOk_at {f : Nat} {n : Int} {l : List Int} {k s : Nat} (h : rowOk rd f n l k = true) (hs : s < k) : okS rd f n l s = true := by
  unfold rowOk at h
  exact List.all_eq_true.1 h s (List.mem_range.2 hs)
/-- A block of pointers that is all right leads to data. -/
theorem row_data : ∀ (f : Nat) (n : Int) (l : List Int), n ∈ metasN → anyP l 16 = true → rowOk rd f n l 16 = true → ∃ x : Nat, x < 600 ∧ n ∈ (pathN (x : Int)).map (·.1) ∧ ∃ q, ((x : Int), q) ∈ rowE rd f n l 16 := by
  intro f
  induction f with
  | zero =>
    intro n l hn ha hr
    obtain ⟨s, hs, h0⟩ := anyP_at ha
    have h := rowOk_at hr hs
    unfold okS at h
    rw [decide_eq_false h0, Bool.false_or] at h
    cases hc : childN n s with
    | none => rw [hc] at h; cases h
    | some c => rw [hc] at h; cases h
  | succ f ih =>
    intro n l hn ha hr
    obtain ⟨s, hs, h0⟩ := anyP_at ha
    have h := rowOk_at hr hs
    unfold okS at h
    rw [decide_eq_false h0, Bool.false_or] at h
    cases hc : childN n s with
    | none => rw [hc] at h; cases h
    | some c =>
      rw [hc] at h
      have h : gN rd (f + 1) c (l.getD s 0) = true := h
      obtain ⟨hu, hk⟩ := child_kind (.inr ⟨hn, rfl, rfl⟩) hs hc
      have hlt : l.getD s 0 < 4096 := by
        by_cases hlt : l.getD s 0 < 4096
        · exact hlt
        · rw [gN_great rd (by omega)] at h; cases h
      rcases hk with ⟨c0, c1⟩ | ⟨hcm, _⟩
      · obtain ⟨x, rfl⟩ := Int.eq_ofNat_of_zero_le c0
        refine ⟨x, by omega, ?_, _, mem_rowE hs h0 hc (by rw [eN_data rd c0]; exact List.mem_singleton.2 rfl)⟩
        rcases data_path x (by omega) with ⟨e, _⟩ | e
        · rw [hu] at e
          exact absurd (show n = 600 from e) fun e => off600 (e ▸ hn)
        · rw [hu] at e; exact e
      · have hneg := (metasN_neg c hcm).1
        rw [gN_meta rd hneg hlt] at h
        cases hrd : rd (l.getD s 0) with
        | none => rw [hrd] at h; cases h
        | some bs =>
          rw [hrd] at h
          simp only [Bool.and_eq_true] at h
          obtain ⟨x, hx, hp, q, hq⟩ := ih c (wordsN bs) hcm h.2.1 h.2.2
          refine ⟨x, hx, ?_, q, mem_rowE hs h0 hc (by rw [eN_meta rd hneg hrd]; exact List.mem_append_left _ hq)⟩
          rcases (path_up x hx c hp).2 with e | e
          · rw [hu] at e
            exact absurd (show n = 600 from e) fun e => off600 (e ▸ hn)
          · rw [hu] at e; exact e
theorem eN_nz : ∀ (f : Nat) (n a : Int), a ≠ 0 → ∀ e ∈ eN rd f n a, e.2 ≠ 0 := by
  intro f
  induction f with
  | zero => intro n a _ e he; unfold eN at he; cases he
  | succ f ih =>
    intro n a ha e he
    by_cases hn : 0 ≤ n
    · rw [eN_data rd hn, List.mem_singleton] at he
      rw [he]; exact ha
    · unfold eN at he
      rw [if_neg hn, List.mem_append, List.mem_singleton] at he
      rcases he with he | rfl
      · cases hr : rd a with
        | none => rw [hr] at he; cases he
        | some bs =>
          rw [hr] at he
          obtain ⟨s, _, he⟩ := List.mem_flatMap.1 he
          split at he
          · cases he
          · rename_i h0
            cases hc : childN n s with
            | none => rw [hc] at he; cases he
            | some c => rw [hc] at he; exact ih c _ h0 e he
      · exact ha
theorem rowE_nz {f : Nat} {n : Int} {l : List Int} {k : Nat} : ∀ e ∈ rowE rd f n l k, e.2 ≠ 0 := fun e he => by
  unfold rowE at he
  obtain ⟨s, _, he⟩ := List.mem_flatMap.1 he
  unfold eS at he
  split at he
  · cases he
  · rename_i h0
    cases hc : childN n s with
    | none => rw [hc] at he; cases he
    | some c => rw [hc] at he; exact eN_nz f c _ h0 e he
end
theorem applyE_nz : ∀ {E : List (Int × Int)} {a : Int → Int} {x : Int}, (∀ e ∈ E, e.2 ≠ 0) → ((∃ q, (x, q) ∈ E) ∨ a x ≠ 0) → applyE a E x ≠ 0
  | [], a, x, _, h => h.elim (fun ⟨_, hq⟩ => by cases hq) id
  | e :: E, a, x, hz, h => by
    show applyE (setD a e.1 e.2) E x ≠ 0
    refine applyE_nz (fun e' he => hz e' (List.mem_cons_of_mem _ he)) ?_
    by_cases hx : x = e.1
    · right; rw [hx, setD_self]; exact hz e List.mem_cons_self
    · rcases h with ⟨q, hq⟩ | h
      · rcases List.mem_cons.1 hq with e' | hq
        · exact absurd (by rw [← e']) hx
        · exact .inl ⟨q, hq⟩
      · right; rw [setD_other hx]; exact h
/-- What the closure answers. -/
def DownRes (Z xb mv rv dv : Nat) (R : Nat → Prop) (rd : Int → Option (List Int)) (rf : FuncId) (cap : Array Value) (J : List Int → World → Prop) (f : Nat) (n : Int) (l : List Int) (k : Nat) (w : World) (F : Nat → Prop) (a0 : Int → Int) (tr : List Int) (e : Ending) (w' : World) : Prop :=
  ∃ b, e = .returned (.bool b) ∧ b = ((anyP l k || decide (n = 600)) && rowOk rd f n l k) ∧ Fr (fun x => F x ∨ R x) w w' ∧ (b = true → ∃ d' m' F', DSt Z xb mv rv dv R rd rf cap J w F a0 (rowE rd f n l k) (tr ++ rowT rd f n l k) w' d' m' F')
structure DRow (Z xb mv rv dv : Nat) (R : Nat → Prop) (rd : Int → Option (List Int)) (rf : FuncId) (cap : Array Value) (J : List Int → World → Prop) (f : Nat) (n : Int) (l : List Int) (s : Nat) (w : World) (F : Nat → Prop) (a0 : Int → Int) (tr : List Int) (wr : World) : Prop where
  st : ∃ d' m' F', DSt Z xb mv rv dv R rd rf cap J w F a0 (rowE rd f n l s) (tr ++ rowT rd f n l s) wr d' m' F'
  ok : rowOk rd f n l s = true

set_option maxHeartbeats 8000000 in
set_option maxRecDepth 100000 in
theorem down_any {Z xb mv rv dv : Nat} {R : Nat → Prop} {rd : Int → Option (List Int)} {rf : FuncId} {cap : Array Value} {J : List Int → World → Prop} (hR : Reader Z R rd rf cap J) : ∀ (f : Nat) (n : Int) (k : Nat) (l : List Int) (g : Nat) (t : TypeId) (c : Nat) (w : World) (d : Int → Int) (m : MM) (F : Nat → Prop) (tr : List Int),
    (n = 600 ∧ k = 9 ∧ 4 ≤ f ∨ n ∈ metasN ∧ k = 16 ∧ lvlN n ≤ f) → l.length = k → (∀ p ∈ l, 0 ≤ p ∧ p < 4294967296) → w.heap[g]? = some (.cells (u32s l).toArray t (0, 0)) → ¬ F g ∧ Z ≤ g → DSt Z xb mv rv dv R rd rf cap J w F (adr d m) [] tr w d m F →
    Calls Tryd.prog 38 #[.int .i64 n, .slice (some ⟨g, 0, none⟩) k c, .pointer (some ⟨mv, 0, none⟩), .pointer (some ⟨rv, 0, none⟩), .pointer (some ⟨dv, 0, none⟩)] w (DownRes Z xb mv rv dv R rd rf cap J f n l k w F (adr d m) tr) := by
  intro f
  induction f with
  | zero =>
    intro n k l g t c w d m F tr hn
    rcases hn with ⟨_, _, h⟩ | ⟨hn, _, h⟩
    · omega
    · have := (metas_find n hn).2.1; omega
  | succ f ih =>
    intro n k l g t c w d m F tr hn hl hb hg hg0 hd
    have IH := Lib.hid ih; have HN := Lib.hid hn; have HL := Lib.hid hl; have HB := Lib.hid hb; have HG := Lib.hid hg; have HG0 := Lib.hid hg0
    have hk9 : k ≤ 16 := by rcases hn with ⟨_, h, _⟩ | ⟨_, h, _⟩ <;> omega
    have hk9' : (k : Int) ≤ 16 := by omega
    have ST : Hid (DRow Z xb mv rv dv R rd rf cap J (f + 1) n l 0 w F (adr d m) tr w) := Lib.hid ⟨⟨d, m, F, by rw [show rowT rd (f + 1) n l 0 = [] from rfl, List.append_nil]; exact hd⟩, rfl⟩
    generalize adr d m = a0 at ST ⊢
    clear ih hn hl hb hg hg0 hd
    go_enter Tryd.func38, Tryd.ntmps38
    go_wp2_with fail
    go_loopw [8, 18] (fun an idx wr => ∃ s : Nat, s ≤ k ∧ idx = .int .i64 s ∧ an = .bool (anyP l s) ∧ DRow Z xb mv rv dv R rd rf cap J (f + 1) n l s w F a0 tr wr) (fun _ idx _ => k - (RowKit.intOf idx).toNat)
    case atStart => exact ⟨0, by omega, rfl, rfl, ST.out⟩
    case round =>
      obtain ⟨s, hs, rfl, rfl, hst⟩ := hrel
      clear ST
      have HS := Lib.hid hst
      clear hst
      by_cases hsk : s < k
      · obtain ⟨d1, m1, F1, hd1⟩ := HS.out.st
        have hrow := hd1.row hR HG.out HG0.out.1 HG0.out.2
        obtain ⟨p, hp⟩ : ∃ p, l[s]? = some p := ⟨_, List.getElem?_eq_getElem (by rw [HL.out]; exact hsk)⟩
        obtain ⟨hp0, hp1⟩ := HB.out p (List.mem_of_getElem? hp)
        have hpd : l.getD s 0 = p := by rw [List.getD_eq_getElem?_getD, hp]; rfl
        have hcell := cell_blk_some hrow (i := s) (show (u32s l).toArray[s]? = some (.int .u32 p) by rw [List.getElem?_toArray]; unfold u32s; rw [List.getElem?_map, hp]; rfl)
        have b0 : (0 : Int) ≤ (s : Int) := by omega
        have b1 : (s : Int) < (k : Int) := by omega
        have HD1 := Lib.hid hd1; have HP := Lib.hid hp; have HPD := Lib.hid hpd
        clear hrow hp hpd hd1
        by_cases hpz : p = 0
        · subst hpz
          have S1 : Hid (DRow Z xb mv rv dv R rd rf cap J (f + 1) n l (s + 1) w F a0 tr wr) := Lib.hid ⟨⟨d1, m1, F1, by
            rw [rowE_succ, rowT_succ]
            unfold eS tS
            rw [if_pos HPD.out, if_pos HPD.out, List.append_nil, List.append_nil]
            exact HD1.out⟩, by rw [rowOk_succ, HS.out.ok]; unfold okS; rw [decide_eq_true HPD.out]; rfl⟩
          have hany : Hid (anyP l (s + 1) = anyP l s) := Lib.hid (by rw [anyP_succ HP.out]; simp)
          clear HD1 HS
          go_wp2_with fail
          go_roundw
          case rel => exact ⟨s + 1, by omega, by go_num, by rw [hany.out], S1.out⟩
          case measure => simp only [RowKit.intOf]; omega
        · have q0 : (p == 0) = false := beq_eq_false_iff_ne.2 hpz
          have hC := Lib.hid (child_any (n := n) (k := k) (HN.out.imp (fun h => ⟨h.1, h.2.1⟩) (fun h => ⟨h.1, h.2.1⟩)) s hsk HD1.out.f.span)
          go_wp2_with fail
          refine hC.out.mono ?_
          rintro e w2 ⟨rfl, hb2⟩
          have HD2 := Lib.hid (HD1.out.below hR hb2)
          clear hC hb2 HD1
          obtain ⟨o, ho⟩ : ∃ o, o = childN n s := ⟨_, rfl⟩
          have HO := Lib.hid ho
          rw [← ho]
          clear ho
          have FALSE : Hid (∀ w', Fr (fun x => F x ∨ R x) w w' → okS rd (f + 1) n l s = false → DownRes Z xb mv rv dv R rd rf cap J (f + 1) n l k w F a0 tr (.returned (.bool false)) w') := Lib.hid fun w' hf hk => ⟨false, rfl, by rw [rowOk_bad rd hsk hk, Bool.and_false], hf, fun h => by cases h⟩
          cases o with
          | none =>
            have hno : Hid (okS rd (f + 1) n l s = false) := Lib.hid (by unfold okS; rw [HPD.out, decide_eq_false hpz, ← HO.out]; rfl)
            go_wp2_with fail
            go_ret
            exact FALSE.out _ HD2.out.fr hno.out
          | some ch =>
            by_cases hpm : 4096 ≤ p
            · have hno : Hid (okS rd (f + 1) n l s = false) := Lib.hid (by unfold okS; rw [HPD.out, decide_eq_false hpz, ← HO.out]; exact gN_great rd hpm)
              have q1 : decide ((4096 : Int) ≤ p) = true := by simpa using hpm
              go_wp2_with fail
              go_ret
              exact FALSE.out _ HD2.out.fr hno.out
            · have q1 : decide ((4096 : Int) ≤ p) = false := by simpa using hpm
              have hkind : Hid ((0 ≤ ch ∧ ch < 600) ∨ (ch ∈ metasN ∧ lvlN ch ≤ f)) := Lib.hid (by
                rcases HN.out with ⟨h1, h2, h3⟩ | ⟨h1, h2, h3⟩
                · exact (child_kind (.inl ⟨h1, h2, rfl⟩) hsk HO.out.symm).2.imp id fun h => ⟨h.1, by omega⟩
                · exact (child_kind (.inr ⟨h1, h2, rfl⟩) hsk HO.out.symm).2.imp id fun h => ⟨h.1, by omega⟩)
              have hany : Hid (anyP l (s + 1) = true) := Lib.hid (by rw [anyP_succ HP.out, decide_eq_true hpz, Bool.or_true])
              have hlc := HD2.out.lc
              have cm := cell_blk_some hlc.m (i := 0) rfl
              have cr := cell_blk_some hlc.r (i := 0) rfl
              have cd := cell_blk_some hlc.dn (i := 0) rfl
              clear hlc
              rcases hkind.out with ⟨c0, c1⟩ | ⟨hcm, hcl⟩
              · have hSet := Lib.hid (HD2.out.set hR (c := ch) (p := p) ⟨c0, c1⟩ ⟨by omega, by omega⟩)
                go_wp2_with fail
                refine hSet.out.mono ?_
                rintro e w3 ⟨v3, d3, m3, F3, rfl, hd3⟩
                have S3 : Hid (DRow Z xb mv rv dv R rd rf cap J (f + 1) n l (s + 1) w F a0 tr w3) := Lib.hid ⟨⟨d3, m3, F3, by
                  rw [rowE_succ, rowT_succ]
                  unfold eS tS
                  rw [if_neg (by rw [HPD.out]; exact hpz), if_neg (by rw [HPD.out]; exact hpz), ← HO.out, HPD.out]
                  show DSt Z xb mv rv dv R rd rf cap J w F a0 (_ ++ eN rd (f + 1) ch p) (tr ++ (_ ++ tN rd (f + 1) ch p)) w3 d3 m3 F3
                  rw [eN_data rd c0, tN_data rd c0, List.append_nil]
                  exact hd3⟩, by
                  rw [rowOk_succ, HS.out.ok]
                  unfold okS
                  rw [HPD.out, decide_eq_false hpz, ← HO.out]
                  exact gN_data rd c0 (by omega)⟩
                clear hSet hd3 HD2 HS FALSE cm cr cd
                go_wp2_with fail
                go_roundw
                case rel => exact ⟨s + 1, by omega, by go_num, by rw [hany.out], S3.out⟩
                case measure => simp only [RowKit.intOf]; omega
              · have hneg := (metasN_neg ch hcm).1
                have q2 : decide ((0 : Int) ≤ ch) = false := by simpa using hneg
                have hRd := Lib.hid (HD2.out.read hR (p := p) ⟨by omega, by omega⟩)
                have hent := hR.enter
                go_wp2_with fail
                clear hent
                refine hRd.out.mono ?_
                rintro e w3 ⟨v3, hd3, he⟩
                have HD3 := Lib.hid hd3
                clear hRd hd3 HD2
                cases hrd : rd p with
                | none =>
                  rw [hrd] at he
                  obtain rfl : e = _ := he
                  have hno : Hid (okS rd (f + 1) n l s = false) := Lib.hid (by unfold okS; rw [HPD.out, decide_eq_false hpz, ← HO.out]; show gN rd (f + 1) ch p = false; rw [gN_meta rd hneg (by omega), hrd])
                  clear hrd
                  go_wp2_with fail
                  go_ret
                  exact FALSE.out _ HD3.out.fr hno.out
                | some bs =>
                  rw [hrd] at he
                  obtain ⟨rfl, hrb⟩ := he
                  obtain ⟨ba, bc, rfl⟩ := hrb.shape
                  have HRD := Lib.hid hrd
                  by_cases h64 : bs.length = 64
                  · have HBX : Hid (∀ x ∈ bs, 0 ≤ x ∧ x < 256) := Lib.hid (by obtain ⟨_, _, _, _, hx, _⟩ := hrb; exact hx)
                    have HPT := Lib.hid (pointers_any hrb h64)
                    have HL64 := Lib.hid h64
                    rw [h64] at HPT ⊢
                    clear hrb h64 hrd
                    go_wp2_with fail
                    refine HPT.out.mono ?_
                    rintro e w4 ⟨rfl, hb4⟩
                    have HD4 := Lib.hid (HD3.out.below hR hb4)
                    clear hb4 HPT HD3
                    obtain ⟨w6, hw6⟩ : ∃ w6, w6 = (w4.alloc (.cells #[.int .u32 0, .int .u32 0, .int .u32 0, .int .u32 0, .int .u32 0, .int .u32 0, .int .u32 0, .int .u32 0, .int .u32 0, .int .u32 0, .int .u32 0, .int .u32 0, .int .u32 0, .int .u32 0, .int .u32 0, .int .u32 0] 97)).setRow w4.heap.size (u32s (wordsN bs)).toArray := ⟨_, rfl⟩
                    have ob6 : w6.heap[w4.heap.size]? = some (.cells (u32s (wordsN bs)).toArray 97 (0, 0)) := by rw [hw6]; exact setRow_heap _ _ _ _ _ _ (blk_new rfl)
                    have hb6 : Below w4.heap.size w4 w6 := by
                      have hb := (Below.refl w4.heap.size w4).alloc (Nat.le_refl _) (.cells #[.int .u32 0, .int .u32 0, .int .u32 0, .int .u32 0, .int .u32 0, .int .u32 0, .int .u32 0, .int .u32 0, .int .u32 0, .int .u32 0, .int .u32 0, .int .u32 0, .int .u32 0, .int .u32 0, .int .u32 0, .int .u32 0] 97)
                      rw [hw6]
                      exact ⟨hb.os, hb.tape, hb.output, by rw [setRow_size]; exact hb.size, fun b hb' => by rw [setRow_other _ _ _ _ (by omega)]; exact hb.block b hb'⟩
                    have HD6 := Lib.hid ((HD4.out.below hR hb6).below hR (below_drewN (Below.refl _ w6) 1))
                    have hng : ¬ F1 w4.heap.size ∧ Z ≤ w4.heap.size := ⟨fun h => by have := HD4.out.f.lt _ h; omega, Nat.le_trans HD4.out.z HD4.out.fr.size⟩
                    have hcl3 := (metas_find ch hcm).2.2
                    have hDN := IH.out ch 16 (wordsN bs) w4.heap.size 97 16 (w6.drewN 1) d1 m1 F1 ((tr ++ rowT rd (f + 1) n l s) ++ [p]) (.inr ⟨hcm, rfl, hcl⟩) rfl (wordsN_bd HBX.out) ob6 hng HD6.out.refl
                    have HDN := Lib.hid hDN
                    clear HD4 hb6 hng hDN hcl3
                    go_wp2_with (refine wpList_store_row rfl 97 _ _ rfl w4.heap.size (u32s (wordsN bs)).toArray rfl rfl 97 _ (blk_new rfl) (by kernel_rfl) rfl (by unfold u32s wordsN; rw [List.all_toArray, List.all_map]; rfl) ?_)
                    rw [← hw6]
                    have cd6 : w6.cell? ⟨dv, 0, none⟩ = some (.func (.func 38) #[] #[.pointer (some ⟨mv, 0, none⟩), .pointer (some ⟨rv, 0, none⟩), .pointer (some ⟨dv, 0, none⟩)]) := cell_blk_some (w := w6) HD6.out.lc.dn (i := 0) rfl
                    clear hw6 cm cr cd
                    go_region_law
                      (first
                        | (go_simp; go_at_call 38; refine HDN.out.mono ?_
                           rintro e w7 ⟨b, rfl, hbv, hfr7, hd7⟩
                           have HBV := Lib.hid hbv; have HF7 := Lib.hid hfr7; have HD7 := Lib.hid hd7
                           clear hbv hfr7 hd7))
                    clear cd6 HDN IH
                    have hne : decide (ch = 600) = false := decide_eq_false (by omega)
                    have hgn : Hid (gN rd (f + 1) ch p = b) := Lib.hid (by rw [gN_meta rd hneg (by omega), HRD.out, HBV.out, hne, Bool.or_false]; simp [HL64.out])
                    clear hne
                    have hz6 := HD6.out.fr.size
                    cases b
                    · have hno : Hid (okS rd (f + 1) n l s = false) := Lib.hid (by unfold okS; rw [HPD.out, decide_eq_false hpz, ← HO.out]; exact hgn.out)
                      have hfr : Hid (Fr (fun x => F x ∨ R x) w w7) := Lib.hid (HD6.out.fr.trans' HF7.out fun x hx hS => hS.elim (fun h => (HD6.out.new x h).elim .inl fun hh => by omega) .inr)
                      clear HD6 HF7 HD7
                      go_wp2_with fail
                      go_ret
                      exact FALSE.out _ hfr.out hno.out
                    · obtain ⟨d7, m7, F7, hd7⟩ := HD7.out rfl
                      have hbv := HBV.out
                      have hall : anyP (wordsN bs) 16 = true ∧ rowOk rd f ch (wordsN bs) 16 = true := by
                        rw [decide_eq_false (by omega : ¬ ch = 600), Bool.or_false] at hbv
                        exact Bool.and_eq_true_iff.1 hbv.symm
                      obtain ⟨x, hx6, hxp, q, hxq⟩ := row_data (rd := rd) f ch (wordsN bs) hcm hall.1 hall.2
                      have hx0 : d7 (x : Int) ≠ 0 := by
                        rw [← adr_data (d := d7) (m := m7) (by omega : (0 : Int) ≤ (x : Int)), hd7.adr]
                        exact applyE_nz rowE_nz (.inl ⟨q, hxq⟩)
                      obtain ⟨⟨ma, mu⟩, hm7⟩ := Option.isSome_iff_exists.1 ((cov hd7.inv ch).2 ⟨x, hx6, hx0, hxp⟩)
                      have hd8 := HD6.out.step hd7
                      obtain ⟨mb, gb, x1, lk, x2, x3, hd9⟩ := hd8.setM hR (p := p) hm7
                      have cm7 := cell_blk_some hd8.lc.m (i := 0) rfl
                      have HD9 := Lib.hid hd9
                      have hok : Hid (okS rd (f + 1) n l s = true) := Lib.hid (by unfold okS; rw [HPD.out, decide_eq_false hpz, ← HO.out]; exact hgn.out)
                      clear hbv hall hx6 hxp hxq hx0 hm7 hd7 hd8 hd9 HD6 HD7 HF7
                      go_wp2_with fail
                      have S9 : Hid (DRow Z xb mv rv dv R rd rf cap J (f + 1) n l (s + 1) w F a0 tr (w7.setCell ⟨gb, 0, none⟩ (.int .i64 p))) := Lib.hid ⟨⟨d7, _, F7, by
                        have h9 := HD9.out
                        rw [rowE_succ, rowT_succ]
                        unfold eS tS
                        rw [if_neg (by rw [HPD.out]; exact hpz), if_neg (by rw [HPD.out]; exact hpz), ← HO.out, HPD.out]
                        show DSt Z xb mv rv dv R rd rf cap J w F a0 (_ ++ eN rd (f + 1) ch p) (tr ++ (_ ++ tN rd (f + 1) ch p)) _ _ _ F7
                        rw [eN_meta rd hneg HRD.out, tN_meta rd hneg HRD.out]
                        simp only [List.append_assoc, List.singleton_append, List.cons_append, List.nil_append] at h9 ⊢
                        exact h9⟩, by rw [rowOk_succ, HS.out.ok, hok.out]; rfl⟩
                      clear HD9 HS
                      go_roundw
                      case rel => exact ⟨s + 1, by omega, by go_num, by rw [hany.out], S9.out⟩
                      case measure => simp only [RowKit.intOf]; omega
                  · have hno : Hid (okS rd (f + 1) n l s = false) := Lib.hid (by unfold okS; rw [HPD.out, decide_eq_false hpz, ← HO.out]; show gN rd (f + 1) ch p = false; rw [gN_meta rd hneg (by omega), hrd]; simp [h64])
                    have q3 : ((bs.length : Int) == 64) = false := beq_eq_false_iff_ne.2 (by omega)
                    have q4 : ((bs.length : Int) != 64) = true := by rw [bne_iff_ne]; omega
                    clear hrb hrd h64
                    go_wp2_with fail
                    go_ret
                    exact FALSE.out _ HD3.out.fr hno.out
      · obtain rfl : s = k := by omega
        obtain ⟨d1, m1, F1, hd1⟩ := HS.out.st
        have RES : Hid (∀ b, b = (anyP l s || decide (n = 600)) → DownRes Z xb mv rv dv R rd rf cap J (f + 1) n l s w F a0 tr (.returned (.bool b)) wr) := Lib.hid fun b hb => ⟨b, rfl, by rw [HS.out.ok, Bool.and_true]; exact hb, hd1.fr, fun _ => ⟨d1, m1, F1, hd1⟩⟩
        clear hd1 HS hs hsk hk9 hk9'
        generalize anyP l s = an at RES ⊢
        cases an
        · by_cases h6 : n = 600
          · have q6 : (n == 600) = true := beq_iff_eq.2 h6
            have HH := Lib.hid (RES.out true (by rw [decide_eq_true h6]; rfl))
            clear RES h6
            go_wp2_with fail
            go_ret
            exact HH.out
          · have q6 : (n == 600) = false := beq_eq_false_iff_ne.2 h6
            have HH := Lib.hid (RES.out false (by rw [decide_eq_false h6]; rfl))
            clear RES h6
            go_wp2_with fail
            go_ret
            exact HH.out
        · have HH := Lib.hid (RES.out true rfl)
          clear RES
          go_wp2_with fail
          go_ret
          exact HH.out
end Go.Proofs.YtklamgijikcnaaaDoor
