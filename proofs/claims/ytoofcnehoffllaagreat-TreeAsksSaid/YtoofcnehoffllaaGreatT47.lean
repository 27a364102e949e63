/- Walk of Rename (printed by tools/gen47.py). -/
import Derived.Test.YtoofcnehoffllaaGreatT46
namespace Go.Proofs.YtoofcnehoffllaaGreat
open Go.RowKit

section
variable {w w' : World} {tb nb cap : Nat} {P E : Nat → Option Nat} {V : Nat → Value} {M : TM}
theorem run_eql_nil_left {P : Program} (w : World) {tp te : TypeId} (a : Addr) (hp : P.underlying tp = some (.pointer te)) :
    (binOp .eql tp (.pointer none) (.pointer (some a))).run P w = .ok (.bool false) w := by
  have h : ∀ d : Nat, (Op.equalIn (d + 1) tp (.pointer none) (.pointer (some a))).run P w = .ok false w := fun d => by
    simp [Op.equalIn, run_underlying hp]
  simp only [binOp]
  simp [Op.equal, Op.maxDepth, h 9999]
theorem TIn.foot_lt' (h : TIn w tb nb cap P E V M) {b : Nat} (hb : TFoot tb nb P E V b) : b < w.heap.size := by
  rcases hb with h1 | h1 | ⟨i, h1⟩ | ⟨i, h1⟩ | ⟨i, h1⟩
  · rw [h1]; exact blk_lt h.top
  · obtain ⟨cs, hr, _⟩ := h.row
    rw [h1]; exact blk_lt hr
  · have hs : (M i).isSome = true := by rw [← h.dom i, h1]; rfl
    obtain ⟨nd, hm⟩ := Option.isSome_iff_exists.1 hs
    exact blk_lt (h.node i b nd h1 hm)
  · obtain ⟨es, c, hm⟩ := h.elt h1
    exact blk_lt hm
  · cases hm : M i with
    | none => rw [(h.eno i hm).2] at h1; cases h1
    | some nd => exact (World.ownsRow.lt (h.data i nd hm) b h1).2
theorem below_mono_call {B : Nat} {w w' : World} (h : Below w.heap.size w w') (hB : B ≤ w.heap.size) : Below B w w' := h.mono hB
set_option maxHeartbeats 8000000 in
set_option maxRecDepth 100000 in
theorem rename_any {F : Nat → Prop} (hAt : TAt w tb cap F M) (hG : Good M cap) (old s : ByteArray) (ho : old.size ≤ 1000000) (hs : s.size ≤ 1000000) :
    Calls Tryz.prog 131 #[.pointer (some ⟨tb, 0, none⟩), .string old, .string s] w fun e w' => e = .returned (.int .i64 (renameN M old s).1) ∧ TLeft w w' tb cap F (renameN M old s).2 := by
  obtain ⟨nb, P, E, V, h, hFt⟩ := hAt
  have HFT := Lib.hid hFt; have HT := Lib.hid h; have HG := Lib.hid hG; have HSZ := Lib.hid hs; have HOZ := Lib.hid ho
  have HP1 := Lib.hid (parent_any old ho w)
  have hmf : ∀ (fn : Fn) (first cap : Array Value) (w : World), (Instr.makeFunc fn first cap).run Tryz.prog w = .ok (.func fn first cap) w := fun _ _ _ _ => rfl
  clear hFt h hG hs ho
  unfold ParPost at HP1
  by_cases hE : parE old = 0
  · have HE := Lib.hid hE
    rw [hE] at HP1
    clear hE
    go_enter Tryz.func131, Tryz.ntmps131
    go_wp2_with fail
    refine HP1.out.mono ?_
    rintro e w1 ⟨v1, rfl, -, hb1, ho1⟩
    have HB1 := Lib.hid hb1; have HO1 := Lib.hid ho1
    have HP2 := Lib.hid (parent_any s HSZ.out w1)
    unfold ParPost at HP2
    clear hb1 ho1 HP1
    by_cases hPE : parE s = 0
    · have HPE := Lib.hid hPE
      rw [hPE] at HP2
      clear hPE
      go_wp2_with fail
      refine HP2.out.mono ?_
      rintro e w2 ⟨v2, rfl, -, hb2, ho2⟩
      have HB2 := Lib.hid (below_call HB1.out hb2 (Nat.le_refl _))
      have HO1b := Lib.hid (own_frame HO1.out (S := fun _ => False) (Fr.below hb2) fun _ _ => id)
      have HNEQ : Hid (∀ b, v2.ownBlock = some b → ¬ v1.ownBlock = some b) := Lib.hid fun b h2 h1 => by
        have q1 := (HO1.out.lt b h1).2
        have q2 := (ho2.lt b h2).1
        omega
      have HO2 := Lib.hid ho2
      have HL := Lib.hid (look_any (HT.out.below HB2.out) old HOZ.out)
      clear hb2 ho2 HP2 HB1 HO1
      go_wp2_with fail
      refine HL.out.mono ?_
      rintro e w3 ⟨rfl, hb3⟩
      have HB3 := Lib.hid (below_call HB2.out hb3 (Nat.le_refl _))
      have HO1c := Lib.hid (own_frame HO1b.out (S := fun _ => False) (Fr.below hb3) fun _ _ => id)
      have HO2c := Lib.hid (own_frame HO2.out (S := fun _ => False) (Fr.below hb3) fun _ _ => id)
      clear hb3 HL HB2 HO1b HO2
      cases hq : lookN M old with
      | inr c =>
        have hc := look_code hq
        have HRES : Hid (renameN M old s = (c, M)) := Lib.hid (by unfold renameN; rw [if_neg (by rw [HE.out]; simp), if_neg (by rw [HPE.out]; simp), hq])
        have hc2 : (c != 0) = true := by simp [hc]
        have HLT := Lib.hid (TLeft.same HT.out HFT.out HB3.out)
        clear hq hc
        unfold leadV
        go_wp2_with fail
        go_ret
        rw [HRES.out]
        exact ⟨rfl, HLT.out⟩
      | inl n =>
        have hi := look_isin HT.out hq
        have HI := Lib.hid hi
        obtain ⟨f, hlf, hef⟩ := look_par HE.out hq
        have HLF := Lib.hid hlf; have HEFO := Lib.hid hef
        have HPN2 : Hid (goE (entN M) 2 (parN old ++ [parL old]) = some n) := Lib.hid (goE_snoc.2 ⟨f, (lead_goE _ _ _).1 hlf, hef⟩)
        have HLNa : Hid (renameN M old s = if placeC M s ≠ 0 then (placeC M s, M) else match leadN M 2 (parN s) with
            | .inr _ => (0, M)
            | .inl p => if isDir M n && isPre (parN old ++ [parL old]) (parN s) then (22, M) else if splitD s && !isDir M n then (20, M) else match entN M p (parL s) with
              | some t => if t = n then (0, M) else if wrongN M t (isDir M n) ≠ 0 then (wrongN M t (isDir M n), M) else movedN M (dropT M p (parL s) t) old s p n
              | none => movedN M M old s p n) := Lib.hid (by unfold renameN; rw [if_neg (by rw [HE.out]; simp), if_neg (by rw [HPE.out]; simp), hq] <;> rfl)
        obtain ⟨ndi, hmi⟩ := Option.isSome_iff_exists.1 hi
        obtain ⟨bn, hpi, _⟩ := HT.out.at_ hmi
        have HPN := Lib.hid hpi
        have HLV : Hid (leadV P (.inl n) = .tuple #[.pointer (some ⟨bn, 0, none⟩), .int .i64 0]) := Lib.hid (by show Value.tuple #[nptr (P n), _] = _; rw [hpi]; rfl)
        rw [HLV.out]
        have HP3 := Lib.hid (place_any (HT.out.below HB3.out) s HSZ.out)
        clear hq hi hmi hpi hlf hef HLV
        rcases place_ways HT.out s with ⟨hc, po, pl, pb, pn, hv⟩ | ⟨hc, p, bp, eb, nd, hl, hm, hd, hp, he, hv⟩
        · have HRES : Hid (renameN M old s = (placeC M s, M)) := Lib.hid (by rw [HLNa.out, if_pos hc])
          have hc2 : (placeC M s != 0) = true := by simp [hc]
          rw [hv] at HP3
          generalize placeC M s = cp at *
          clear hc hv HLNa
          unfold placeA at HP3
          go_wp2_with fail
          refine HP3.out.mono ?_
          rintro e w4 ⟨rfl, hb4⟩
          have HLT := Lib.hid (TLeft.same HT.out HFT.out (below_call (below_call HB3.out hb4 (Nat.le_refl _)) (show Below w4.heap.size w4 (w4.alloc (.cells #[.pointer po, .string pl, .bool pb, .int .i64 pn] 102)) from (Below.refl _ w4).alloc (Nat.le_refl _) _) (Nat.le_refl _)))
          clear hb4 HP3
          go_wp2_with fail
          go_ret
          rw [HRES.out]
          exact ⟨rfl, HLT.out⟩
        · have HLNb : Hid (renameN M old s = if isDir M n && isPre (parN old ++ [parL old]) (parN s) then (22, M) else if splitD s && !isDir M n then (20, M) else match entN M p (parL s) with
              | some t => if t = n then (0, M) else if wrongN M t (isDir M n) ≠ 0 then (wrongN M t (isDir M n), M) else movedN M (dropT M p (parL s) t) old s p n
              | none => movedN M M old s p n) := Lib.hid (by rw [HLNa.out, if_neg (by rw [hc]; simp), hl])
          obtain ⟨fq, hfq⟩ := Option.isSome_iff_exists.1 (show nd.ents.isSome = true from hd)
          have hdd : isDir M p = true := by rw [isDir_of hm]; exact hd
          have HDD := Lib.hid hdd; have HM := Lib.hid hm; have HND := Lib.hid hd; have HPP := Lib.hid hp; have HEE := Lib.hid he; have HLD := Lib.hid hl; have HFF := Lib.hid hfq
          have HEF := Lib.hid (ent_fun hm hfq)
          have HLG : Hid (0 ≤ longN (parN s ++ [parL s]) ∧ longN (parN s ++ [parL s]) ≤ 255) := Lib.hid (by
            obtain ⟨_, q1, q2⟩ := par_names HPE.out
            have := longN_len (parN s ++ [parL s])
            omega)
          rw [hv] at HP3
          clear hc hl hm hd hp he hv hfq hdd HLNa
          unfold placeA at HP3
          go_wp2_with fail
          refine HP3.out.mono ?_
          rintro e w4 ⟨rfl, hb4⟩
          have OX : Hid ((w4.alloc (.cells #[.pointer (some ⟨bp, 0, none⟩), .string (parL s), .bool (splitD s), .int .i64 (longN (parN s ++ [parL s]))] 102)).heap[w4.heap.size]? = some (.cells #[.pointer (some ⟨bp, 0, none⟩), .string (parL s), .bool (splitD s), .int .i64 (longN (parN s ++ [parL s]))] 102 (0, 0))) := Lib.hid (blk_new rfl)
          have HBA := Lib.hid (below_call (below_call HB3.out hb4 (Nat.le_refl _)) (show Below w4.heap.size w4 (w4.alloc (.cells #[.pointer (some ⟨bp, 0, none⟩), .string (parL s), .bool (splitD s), .int .i64 (longN (parN s ++ [parL s]))] 102)) from (Below.refl _ w4).alloc (Nat.le_refl _) _) (Nat.le_refl _))
          have HXW : Hid (w.heap.size ≤ w4.heap.size) := Lib.hid (Nat.le_trans HB3.out.size hb4.size)
          have HO1d := Lib.hid (own_frame (own_frame HO1c.out (S := fun _ => False) (Fr.below hb4) fun _ _ => id) (S := fun _ => False) (Fr.below ((Below.refl w4.heap.size w4).alloc (Nat.le_refl _) (.cells #[.pointer (some ⟨bp, 0, none⟩), .string (parL s), .bool (splitD s), .int .i64 (longN (parN s ++ [parL s]))] 102))) fun _ _ => id)
          have HO2d := Lib.hid (own_frame (own_frame HO2c.out (S := fun _ => False) (Fr.below hb4) fun _ _ => id) (S := fun _ => False) (Fr.below ((Below.refl w4.heap.size w4).alloc (Nat.le_refl _) (.cells #[.pointer (some ⟨bp, 0, none⟩), .string (parL s), .bool (splitD s), .int .i64 (longN (parN s ++ [parL s]))] 102))) fun _ _ => id)
          have HX1 : Hid (∀ b, v1.ownBlock = some b → b < w4.heap.size) := Lib.hid fun b h1 => Nat.lt_of_lt_of_le (HO1c.out.lt b h1).2 hb4.size
          clear hb4 HP3 HO1c HO2c
          go_wp2_with fail
          generalize (w4.alloc (.cells #[.pointer (some ⟨bp, 0, none⟩), .string (parL s), .bool (splitD s), .int .i64 (longN (parN s ++ [parL s]))] 102)) = w5 at *
          generalize w4.heap.size = xb at *
          have HDX := Lib.hid (dir_any (HT.out.below HBA.out) HI.out)
          rw [HPN.out] at HDX
          unfold nptr at HDX
          cases hdn : isDir M n with
          | false =>
            have HDN := Lib.hid hdn
            rw [hdn] at HDX
            refine HDX.out.mono ?_
            rintro e wx ⟨rfl, rfl⟩
            have x2 := cell_blk_some OX.out (i := 2) rfl
            have HLNc : Hid (renameN M old s = if splitD s then (20, M) else match entN M p (parL s) with
                  | some t => if t = n then (0, M) else if wrongN M t (isDir M n) ≠ 0 then (wrongN M t (isDir M n), M) else movedN M (dropT M p (parL s) t) old s p n
                  | none => movedN M M old s p n) := Lib.hid (by rw [HLNb.out, hdn]; simp only [Bool.false_and, Bool.not_false, Bool.and_true]; rw [if_neg (by decide)])
            have HPRE : Hid ((isDir M n && isPre (parN old ++ [parL old]) (parN s)) = false) := Lib.hid (by rw [hdn]; rfl)
            clear hdn HLNb HO1d HO2d HX1 HNEQ
            cases hsd : splitD s with
            | true =>
              have HDX2 := HDX
              clear HDX
              have HRES : Hid (renameN M old s = (20, M)) := Lib.hid (by rw [HLNc.out, hsd, if_pos rfl])
              have HLT := Lib.hid (TLeft.same HT.out HFT.out HBA.out)
              rw [hsd] at x2
              clear HLNc hsd
              go_wp2_with fail
              refine HDX2.out.mono ?_
              rintro e wx2 ⟨rfl, rfl⟩
              go_wp2_with fail
              go_ret
              rw [HRES.out]
              exact ⟨rfl, HLT.out⟩
            | false =>
              have HLN0 : Hid (renameN M old s = match entN M p (parL s) with
                    | some t => if t = n then (0, M) else if wrongN M t (isDir M n) ≠ 0 then (wrongN M t (isDir M n), M) else movedN M (dropT M p (parL s) t) old s p n
                    | none => movedN M M old s p n) := Lib.hid (by rw [HLNc.out, hsd, if_neg (by decide)])
              rw [hsd] at x2 OX
              have HSD := Lib.hid hsd
              clear HLNc hsd HDX
              cases hen : entN M p (parL s) with
              | none =>
                have HEN := Lib.hid hen
                rw [hen] at HLN0
                have HLN : Hid (renameN M old s = movedN M M old s p n) := Lib.hid HLN0.out
                clear hen HLN0
                have hTW := HT.out.below HBA.out
                have hnb := hTW.node p bp nd HPP.out HM.out
                rw [HEE.out] at hnb
                have m1 := cell_blk_some hnb (i := 1) rfl
                have x0 := cell_blk_some OX.out (i := 0) rfl
                have hlk : (Instr.lookup 69 (.map (some eb)) (.string (parL s)) false).run Tryz.prog wx = .ok (.pointer none) wx := by
                  obtain ⟨eb2, he2, hlk2⟩ := hTW.look HM.out HND.out (parL s)
                  obtain rfl : eb = eb2 := Option.some.inj (HEE.out.symm.trans he2)
                  rw [hlk2, HEN.out]
                  rfl

                clear hTW hnb
                have heq := fun w => run_eql_nil_left (P := Tryz.prog) w ⟨bn, 0, none⟩ Tryz.underlying68
                have HBR : Hid (Below w.heap.size w wx.drew) := Lib.hid (below_drewN HBA.out 1)
                have OXR : Hid (wx.drew.heap[xb]? = _) := Lib.hid (show wx.drew.heap[xb]? = _ from OX.out)
                have HDX := Lib.hid (dir_any (HT.out.below HBR.out) HI.out)
                rw [HPN.out, HDN.out] at HDX
                unfold nptr at HDX
                have HML : Hid ((isDir M n && decide (255 < longN (parN s ++ [parL s]) + deepN M n)) = false) := Lib.hid (by rw [HDN.out]; rfl)
                have HDQ : Hid (∀ w', Below wx.heap.size wx w' → Calls Tryz.prog 36 #[.pointer (some ⟨bn, 0, none⟩)] w' fun e w'' => e = .returned (.bool false) ∧ w'' = w') := Lib.hid fun w' hb => by
                  have := dir_any ((HT.out.below HBA.out).below hb) HI.out
                  rw [HPN.out, HDN.out] at this
                  exact this
                clear HDX
                go_wp2_with fail
                go_quiet ((go_at_call 36; exact Calls.quiet_of_same (HDQ.out _ (below_drewN (Below.refl _ wx) _))))
                have HBY := Lib.hid (below_drewN HBA.out nq)
                have OXY := Lib.hid (show (wx.drewN nq).heap[xb]? = _ from OX.out)
                clear HDQ
                generalize wx.drewN nq = wy at *
                have hTW := HT.out.below HBY.out
                have hnb := hTW.node p bp nd HPP.out HM.out
                rw [HEE.out] at hnb
                have m1 := cell_blk_some hnb (i := 1) rfl
                have x0 := cell_blk_some OXY.out (i := 0) rfl
                have hlk : (Instr.lookup 69 (.map (some eb)) (.string (parL s)) false).run Tryz.prog wy = .ok (.pointer none) wy := by
                  obtain ⟨eb2, he2, hlk2⟩ := hTW.look HM.out HND.out (parL s)
                  obtain rfl : eb = eb2 := Option.some.inj (HEE.out.symm.trans he2)
                  rw [hlk2, HEN.out]
                  rfl

                clear hTW hnb
                have HBD := Lib.hid HBY.out
                have OXD := Lib.hid OXY.out
                have HTC := Lib.hid (HT.out.below HBD.out)
                have HFC : Hid (∀ x, TFoot tb nb P E V x → TFoot tb nb P E V x) := Lib.hid fun _ h => h
                have HFRC : Hid (Fr F w wy) := Lib.hid (Fr.below HBD.out)
                have HSC : Hid (w.heap.size ≤ wy.heap.size) := Lib.hid HBD.out.size
                have HPNC := Lib.hid HPN.out
                have HPPC := Lib.hid HPP.out
                have OXC := Lib.hid OXD.out
                have HMV := Lib.hid (MvOk.facts (M1 := M) ⟨HLF.out, HEFO.out, HLD.out, HDD.out, HPRE.out, .inl ⟨HEN.out, rfl⟩⟩ HG.out)
                have HRES : Hid (renameN M old s = (0, moveM M f (parL old) p (parL s) n)) := Lib.hid (by
                  rw [HLN.out]; unfold movedN; rw [HML.out, if_neg (by decide), HMV.out.2.1])
                have x1 := cell_blk_some OXD.out (i := 1) rfl
                have hdm := move_del HTC.out HMV.out.2.2.1
                obtain ⟨bf, -, -, hbf, -⟩ := hdm
                have hpv := place_good (P := P) HE.out HMV.out.2.1 (ent_dir HMV.out.2.2.1)
                rw [hbf] at hpv
                have HBF := Lib.hid hbf
                have HP4 := Lib.hid (place_any HTC.out old HOZ.out)
                rw [hpv] at HP4
                clear hpv hbf
                unfold nptr placeA at HP4
                go_wp2_with fail
                refine HP4.out.mono ?_
                rintro e wd ⟨rfl, hbd⟩
                clear hlk m1 x0 x1
                have OXE : Hid ((wd.alloc (.cells #[.pointer (some ⟨bf, 0, none⟩), .string (parL old), .bool (splitD old), .int .i64 (longN (parN old ++ [parL old]))] 102)).heap[wd.heap.size]? = some (.cells #[.pointer (some ⟨bf, 0, none⟩), .string (parL old), .bool (splitD old), .int .i64 (longN (parN old ++ [parL old]))] 102 (0, 0))) := Lib.hid (blk_new rfl)
                have HBE := Lib.hid (below_call hbd (show Below wd.heap.size wd (wd.alloc (.cells #[.pointer (some ⟨bf, 0, none⟩), .string (parL old), .bool (splitD old), .int .i64 (longN (parN old ++ [parL old]))] 102)) from (Below.refl _ wd).alloc (Nat.le_refl _) _) (Nat.le_refl _))
                have HXD : Hid (wy.heap.size ≤ wd.heap.size) := Lib.hid hbd.size
                clear hbd HP4
                obtain ⟨wE, hwE⟩ : ∃ wE, wE = wd.alloc (.cells #[.pointer (some ⟨bf, 0, none⟩), .string (parL old), .bool (splitD old), .int .i64 (longN (parN old ++ [parL old]))] 102) := ⟨_, rfl⟩
                obtain ⟨xd, hxd⟩ : ∃ xd, xd = wd.heap.size := ⟨_, rfl⟩
                rw [← hwE, ← hxd] at OXE
                rw [← hwE] at HBE
                rw [← hxd] at HXD
                have HWE := Lib.hid hwE; have HXDE := Lib.hid hxd
                clear hwE hxd
                go_wp2_with fail
                rw [← HWE.out, ← HXDE.out]
                obtain ⟨bf2, ef, ndf, hbf2, hnf, hef, ⟨ess, cc, hess⟩, w9, hdel, h9, hf9⟩ := move_del (HTC.out.below HBE.out) HMV.out.2.2.1
                obtain rfl : bf2 = bf := Option.some.inj (hbf2.symm.trans HBF.out)
                have x0 := cell_blk_some OXE.out (i := 0) rfl
                have x1 := cell_blk_some OXE.out (i := 1) rfl
                have m1 := cell_blk_some hnf (i := 1) rfl
                have hxbE : wE.heap[xb]? = _ := (HBE.out.block _ (blk_lt OXC.out)).trans OXC.out
                have OX9 := Lib.hid ((hf9.block xb (blk_lt hxbE) (fun e => by rw [e, hess] at hxbE; injection hxbE with hxbE; cases hxbE)).trans hxbE)
                have H9 := Lib.hid h9; have HF9 := Lib.hid hf9; have HEFE := Lib.hid hef
                clear hbf2 hnf hef hess h9 hf9 hxbE
                go_still_tail 7, (by kernel_rfl)
                change wpList _ _ _ _ _ wE.drew
                have hd9 : isDir (setE M f (updE (entN M f) (parL old) none)) p = true := by
                  obtain ⟨_, _, q1, q2⟩ := isDir_there (ent_dir HMV.out.2.2.1)
                  rw [isDir_setE q1 q2]; exact HMV.out.2.2.2.2.1
                have hn9 : (setE M f (updE (entN M f) (parL old) none) n).isSome = true := by
                  obtain ⟨_, _, q1, q2⟩ := isDir_there (ent_dir HMV.out.2.2.1)
                  rw [some_setE q1]; exact HMV.out.1.1.ok.ent _ _ _ HMV.out.2.2.1
                obtain ⟨bp2, ep, ndp, hbp2, hnp, hep, w10, hput, h10, hf10⟩ := move_put (en := parL s) H9.out hd9 hn9 HPNC.out
                obtain rfl : bp2 = bp := Option.some.inj (hbp2.symm.trans HPPC.out)
                have y0 := cell_blk_some OX9.out (i := 0) rfl
                have n1 := cell_blk_some hnp (i := 1) rfl
                have H10 := Lib.hid h10; have HF10 := Lib.hid hf10; have HEPE := Lib.hid hep
                clear hd9 hn9 hbp2 hnp hep h10 hf10 x0 x1 m1
                go_wp2_with fail
                go_ret
                rw [HRES.out]
                refine ⟨rfl, ⟨_, _, _, _, H10.out, fun x hx => .inl (HFT.out x (HFC.out x hx))⟩, ?_⟩
                exact (((HFRC.out.trans (Fr.below HBE.out)).trans (HF9.out.tell fun x hx => HFT.out x (HFC.out x (.inr (.inr (.inr (.inl ⟨f, by rw [hx]; exact HEFE.out⟩))))))).trans (HF10.out.tell fun x hx => HFT.out x (HFC.out x (.inr (.inr (.inr (.inl ⟨p, by rw [hx]; exact HEPE.out⟩)))))))
              | some t =>
                have HEN := Lib.hid hen
                rw [hen] at HLN0
                have HLN1 : Hid (renameN M old s = if t = n then (0, M) else if wrongN M t (isDir M n) ≠ 0 then (wrongN M t (isDir M n), M) else movedN M (dropT M p (parL s) t) old s p n) := Lib.hid HLN0.out
                have hts := HG.out.1.ok.ent p (parL s) t hen
                obtain ⟨ndt, hmt⟩ := Option.isSome_iff_exists.1 hts
                obtain ⟨bt, hbt, _⟩ := HT.out.at_ hmt
                have HMT := Lib.hid hmt; have HPTT := Lib.hid hbt
                clear hen HLN0 hts hmt hbt
                have hTW := HT.out.below HBA.out
                have hnb := hTW.node p bp nd HPP.out HM.out
                rw [HEE.out] at hnb
                have m1 := cell_blk_some hnb (i := 1) rfl
                have x0 := cell_blk_some OX.out (i := 0) rfl
                have hlk : (Instr.lookup 69 (.map (some eb)) (.string (parL s)) false).run Tryz.prog wx = .ok (.pointer (some ⟨bt, 0, none⟩)) wx := by
                  obtain ⟨eb2, he2, hlk2⟩ := hTW.look HM.out HND.out (parL s)
                  obtain rfl : eb = eb2 := Option.some.inj (HEE.out.symm.trans he2)
                  rw [hlk2, HEN.out]
                  show Result.ok (nptr (P t)) _ = _
                  rw [HPTT.out]; rfl
                clear hTW hnb
                have HBB := Lib.hid HBA.out
                have OXB := Lib.hid OX.out
                obtain ⟨jn, hjn, hjs⟩ := Option.map_eq_some_iff.1 node_info
                by_cases htn : t = n
                · subst htn
                  obtain rfl : bt = bn := Option.some.inj (HPTT.out.symm.trans HPN.out)
                  have heq := fun w => run_eql_ptr_same (P := Tryz.prog) w ⟨bt, 0, none⟩ Tryz.underlying68 hjn
                  have HRES : Hid (renameN M old s = (0, M)) := Lib.hid (by rw [HLN1.out, if_pos rfl])
                  have HLT := Lib.hid (TLeft.same HT.out HFT.out HBB.out)
                  go_wp2_with fail
                  go_ret
                  rw [HRES.out]
                  exact ⟨rfl, HLT.out⟩
                · have HTN := Lib.hid htn
                  have hnet : (⟨bt, 0, none⟩ : Addr) ≠ ⟨bn, 0, none⟩ := fun e => htn (HT.out.pin t n bt HPTT.out (by rw [HPN.out]; injection e with e; rw [e]))
                  obtain ⟨ndn, hmn⟩ := Option.isSome_iff_exists.1 HI.out
                  have heq := run_eql_ptr_other wx (a := ⟨bt, 0, none⟩) (b := ⟨bn, 0, none⟩) Tryz.underlying68 hjn (by simpa using hjs) hnet ((HT.out.below HBB.out).node t bt ndt HPTT.out HMT.out) ((HT.out.below HBB.out).node n bn ndn HPN.out hmn)
                  have HDX := Lib.hid (dir_any (HT.out.below HBB.out) HI.out)
                  rw [HPN.out, HDN.out] at HDX
                  have HA := Lib.hid (notFile_any (HT.out.below HBB.out) (i := t) (by rw [HMT.out]; rfl))
                  rw [HPTT.out] at HA
                  unfold nptr at HDX HA
                  have HLN2 : Hid (renameN M old s = if wrongN M t false ≠ 0 then (wrongN M t false, M) else movedN M (dropT M p (parL s) t) old s p n) := Lib.hid (by rw [HLN1.out, if_neg htn, HDN.out])
                  clear htn hnet hmn HLN1
                  go_wp2_with fail
                  refine HDX.out.mono ?_
                  rintro e wy ⟨rfl, rfl⟩
                  clear heq HDX hlk m1 x0
                  by_cases hw : wrongN M t false = 0
                  · have HLN : Hid (renameN M old s = movedN M (dropT M p (parL s) t) old s p n) := Lib.hid (by rw [HLN2.out, if_neg (by rw [hw]; simp)])
                    have HNOT := Lib.hid (wrong_none hw)
                    rw [hw] at HA
                    have HTP : Hid (t ≠ p) := Lib.hid fun e => by have := HNOT.out (parL s); rw [e, HEN.out] at this; cases this
                    have HT2 : Hid (t ≠ 2) := Lib.hid fun e => HG.out.1.noroot p (parL s) (by rw [HEN.out, e])
                    have hlk := HG.out.1.lk t (HG.out.1.ok.ent p (parL s) t HEN.out)
                    rw [lkN_of HMT.out] at hlk
                    have HTL : Hid (1 ≤ ndt.links ∧ ndt.links ≤ 100) := Lib.hid ⟨hlk.1, hlk.2.1⟩
                    have HT1 : Hid (ndt.links = 1 → ∀ r x, r ≠ t → entN M r x = some t → r = p ∧ x = parL s) := Lib.hid fun h1 r x _ hx => HG.out.1.one (by rw [lkN_of HMT.out]; exact h1) HEN.out hx
                    clear hw HLN2 hlk
                    go_wp2_with fail
                    refine HA.out.mono ?_
                    rintro e wx ⟨rfl, rfl⟩
                    clear HA
                    have HBR : Hid (Below w.heap.size w wx.drew) := Lib.hid (below_drewN HBB.out 1)
                    have OXR : Hid (wx.drew.heap[xb]? = _) := Lib.hid (show wx.drew.heap[xb]? = _ from OXB.out)
                    have HDX := Lib.hid (dir_any (HT.out.below HBR.out) HI.out)
                    rw [HPN.out, HDN.out] at HDX
                    unfold nptr at HDX
                    have HML : Hid ((isDir M n && decide (255 < longN (parN s ++ [parL s]) + deepN M n)) = false) := Lib.hid (by rw [HDN.out]; rfl)
                    have HDQ : Hid (∀ w', Below wx.heap.size wx w' → Calls Tryz.prog 36 #[.pointer (some ⟨bn, 0, none⟩)] w' fun e w'' => e = .returned (.bool false) ∧ w'' = w') := Lib.hid fun w' hb => by
                      have := dir_any ((HT.out.below HBB.out).below hb) HI.out
                      rw [HPN.out, HDN.out] at this
                      exact this
                    clear HDX
                    go_wp2_with fail
                    go_quiet ((go_at_call 36; exact Calls.quiet_of_same (HDQ.out _ (below_drewN (Below.refl _ wx) _))))
                    have HBY := Lib.hid (below_drewN HBB.out nq)
                    have OXY := Lib.hid (show (wx.drewN nq).heap[xb]? = _ from OXB.out)
                    clear HDQ
                    generalize wx.drewN nq = wy at *
                    have hTW := HT.out.below HBY.out
                    have hnb := hTW.node p bp nd HPP.out HM.out
                    rw [HEE.out] at hnb
                    have m1 := cell_blk_some hnb (i := 1) rfl
                    have x0 := cell_blk_some OXY.out (i := 0) rfl
                    have hlk : (Instr.lookup 69 (.map (some eb)) (.string (parL s)) false).run Tryz.prog wy = .ok (.pointer (some ⟨bt, 0, none⟩)) wy := by
                      obtain ⟨eb2, he2, hlk2⟩ := hTW.look HM.out HND.out (parL s)
                      obtain rfl : eb = eb2 := Option.some.inj (HEE.out.symm.trans he2)
                      rw [hlk2, HEN.out]
                      show Result.ok (nptr (P t)) _ = _
                      rw [HPTT.out]; rfl
                    clear hTW hnb
                    have HBD := Lib.hid HBY.out
                    have OXD := Lib.hid OXY.out
                    have x1 := cell_blk_some OXD.out (i := 1) rfl
                    have x2 := cell_blk_some OXD.out (i := 2) rfl
                    have x3 := cell_blk_some OXD.out (i := 3) rfl
                    have HDR := Lib.hid (drop_keep (ob := splitD s) (n := longN (parN s ++ [parL s])) (HT.out.below HBD.out) (F := TFoot tb nb P E V) (fun _ h => h) HM.out HFF.out HPP.out (s := parL s) (i := t) (by rw [← HEF.out]; exact HEN.out) HMT.out HTP.out HT2.out HTL.out HT1.out)
                    have HDT : Hid (dropT M p (parL s) t = dropM M p fq (parL s) t ndt) := Lib.hid (by unfold dropT; rw [HMT.out]; show dropM M p (entN M p) _ t ndt = _; rw [HEF.out])
                    rw [HSD.out] at HDR
                    unfold placeA at HDR
                    go_wp2_with fail
                    refine HDR.out.mono ?_
                    rintro e wc ⟨rfl, nb', P', E', V', hTC, hFC, hfrC, hPC⟩
                    rw [← HDT.out] at hTC
                    have HTC := Lib.hid hTC
                    have HFC := Lib.hid hFC
                    have HFRC : Hid (Fr F w wc) := Lib.hid ((Fr.below HBD.out).trans (hfrC.tell fun x hx => HFT.out x hx))
                    have HSC : Hid (w.heap.size ≤ wc.heap.size) := Lib.hid (Nat.le_trans HBD.out.size hfrC.size)
                    have HPNC : Hid (P' n = some bn) := Lib.hid ((hPC n (fun e => HTN.out e.symm)).trans HPN.out)
                    have HPPC : Hid (P' p = some bp) := Lib.hid ((hPC p (fun e => HTP.out e.symm)).trans HPP.out)
                    have OXC := Lib.hid ((hfrC.block xb (blk_lt OXD.out) (fun hx => absurd (HT.out.foot_lt' hx) (Nat.not_lt.2 HXW.out))).trans OXD.out)
                    clear hTC hFC hfrC hPC HDR HDT hlk m1 x0 x1 x2 x3
                    have HMV := Lib.hid (MvOk.facts (M1 := dropT M p (parL s) t) ⟨HLF.out, HEFO.out, HLD.out, HDD.out, HPRE.out, .inr ⟨t, HEN.out, HTN.out, HNOT.out, rfl⟩⟩ HG.out)
                    have HRES : Hid (renameN M old s = (0, moveM (dropT M p (parL s) t) f (parL old) p (parL s) n)) := Lib.hid (by
                      rw [HLN.out]; unfold movedN; rw [HML.out, if_neg (by decide), HMV.out.2.1])
                    generalize dropT M p (parL s) t = M1 at *
                    have hdm := move_del HTC.out HMV.out.2.2.1
                    obtain ⟨bf, -, -, hbf, -⟩ := hdm
                    have hpv := place_good (P := P') HE.out HMV.out.2.1 (ent_dir HMV.out.2.2.1)
                    rw [hbf] at hpv
                    have HBF := Lib.hid hbf
                    have HP4 := Lib.hid (place_any HTC.out old HOZ.out)
                    rw [hpv] at HP4
                    clear hpv hbf
                    unfold nptr placeA at HP4
                    go_wp2_with fail
                    refine HP4.out.mono ?_
                    rintro e wd ⟨rfl, hbd⟩
                    have OXE : Hid ((wd.alloc (.cells #[.pointer (some ⟨bf, 0, none⟩), .string (parL old), .bool (splitD old), .int .i64 (longN (parN old ++ [parL old]))] 102)).heap[wd.heap.size]? = some (.cells #[.pointer (some ⟨bf, 0, none⟩), .string (parL old), .bool (splitD old), .int .i64 (longN (parN old ++ [parL old]))] 102 (0, 0))) := Lib.hid (blk_new rfl)
                    have HBE := Lib.hid (below_call hbd (show Below wd.heap.size wd (wd.alloc (.cells #[.pointer (some ⟨bf, 0, none⟩), .string (parL old), .bool (splitD old), .int .i64 (longN (parN old ++ [parL old]))] 102)) from (Below.refl _ wd).alloc (Nat.le_refl _) _) (Nat.le_refl _))
                    have HXD : Hid (wc.heap.size ≤ wd.heap.size) := Lib.hid hbd.size
                    clear hbd HP4
                    obtain ⟨wE, hwE⟩ : ∃ wE, wE = wd.alloc (.cells #[.pointer (some ⟨bf, 0, none⟩), .string (parL old), .bool (splitD old), .int .i64 (longN (parN old ++ [parL old]))] 102) := ⟨_, rfl⟩
                    obtain ⟨xd, hxd⟩ : ∃ xd, xd = wd.heap.size := ⟨_, rfl⟩
                    rw [← hwE, ← hxd] at OXE
                    rw [← hwE] at HBE
                    rw [← hxd] at HXD
                    have HWE := Lib.hid hwE; have HXDE := Lib.hid hxd
                    clear hwE hxd
                    go_wp2_with fail
                    rw [← HWE.out, ← HXDE.out]
                    obtain ⟨bf2, ef, ndf, hbf2, hnf, hef, ⟨ess, cc, hess⟩, w9, hdel, h9, hf9⟩ := move_del (HTC.out.below HBE.out) HMV.out.2.2.1
                    obtain rfl : bf2 = bf := Option.some.inj (hbf2.symm.trans HBF.out)
                    have x0 := cell_blk_some OXE.out (i := 0) rfl
                    have x1 := cell_blk_some OXE.out (i := 1) rfl
                    have m1 := cell_blk_some hnf (i := 1) rfl
                    have hxbE : wE.heap[xb]? = _ := (HBE.out.block _ (blk_lt OXC.out)).trans OXC.out
                    have OX9 := Lib.hid ((hf9.block xb (blk_lt hxbE) (fun e => by rw [e, hess] at hxbE; injection hxbE with hxbE; cases hxbE)).trans hxbE)
                    have H9 := Lib.hid h9; have HF9 := Lib.hid hf9; have HEFE := Lib.hid hef
                    clear hbf2 hnf hef hess h9 hf9 hxbE
                    go_still_tail 7, (by kernel_rfl)
                    change wpList _ _ _ _ _ wE.drew
                    have hd9 : isDir (setE M1 f (updE (entN M1 f) (parL old) none)) p = true := by
                      obtain ⟨_, _, q1, q2⟩ := isDir_there (ent_dir HMV.out.2.2.1)
                      rw [isDir_setE q1 q2]; exact HMV.out.2.2.2.2.1
                    have hn9 : (setE M1 f (updE (entN M1 f) (parL old) none) n).isSome = true := by
                      obtain ⟨_, _, q1, q2⟩ := isDir_there (ent_dir HMV.out.2.2.1)
                      rw [some_setE q1]; exact HMV.out.1.1.ok.ent _ _ _ HMV.out.2.2.1
                    obtain ⟨bp2, ep, ndp, hbp2, hnp, hep, w10, hput, h10, hf10⟩ := move_put (en := parL s) H9.out hd9 hn9 HPNC.out
                    obtain rfl : bp2 = bp := Option.some.inj (hbp2.symm.trans HPPC.out)
                    have y0 := cell_blk_some OX9.out (i := 0) rfl
                    have n1 := cell_blk_some hnp (i := 1) rfl
                    have H10 := Lib.hid h10; have HF10 := Lib.hid hf10; have HEPE := Lib.hid hep
                    clear hd9 hn9 hbp2 hnp hep h10 hf10 x0 x1 m1
                    go_wp2_with fail
                    go_ret
                    rw [HRES.out]
                    refine ⟨rfl, ⟨_, _, _, _, H10.out, fun x hx => .inl (HFT.out x (HFC.out x hx))⟩, ?_⟩
                    exact (((HFRC.out.trans (Fr.below HBE.out)).trans (HF9.out.tell fun x hx => HFT.out x (HFC.out x (.inr (.inr (.inr (.inl ⟨f, by rw [hx]; exact HEFE.out⟩))))))).trans (HF10.out.tell fun x hx => HFT.out x (HFC.out x (.inr (.inr (.inr (.inl ⟨p, by rw [hx]; exact HEPE.out⟩)))))))
                  · have HRES : Hid (renameN M old s = (wrongN M t false, M)) := Lib.hid (by rw [HLN2.out, if_pos hw])
                    have HLT := Lib.hid (TLeft.same HT.out HFT.out HBB.out)
                    have hc2 : (wrongN M t false != 0) = true := by simp [hw]
                    generalize wrongN M t false = cw at *
                    clear hw HLN2
                    go_wp2_with fail
                    refine HA.out.mono ?_
                    rintro e wx ⟨rfl, rfl⟩
                    clear HA
                    go_wp2_with fail
                    go_ret
                    rw [HRES.out]
                    exact ⟨rfl, HLT.out⟩
          | true =>
            have HDN := Lib.hid hdn
            rw [hdn] at HDX
            refine HDX.out.mono ?_
            rintro e wx ⟨rfl, rfl⟩
            clear HDX
            have HLNc : Hid (renameN M old s = if isPre (parN old ++ [parL old]) (parN s) then (22, M) else match entN M p (parL s) with
                  | some t => if t = n then (0, M) else if wrongN M t (isDir M n) ≠ 0 then (wrongN M t (isDir M n), M) else movedN M (dropT M p (parL s) t) old s p n
                  | none => movedN M M old s p n) := Lib.hid (by rw [HLNb.out, hdn]; simp only [Bool.true_and, Bool.not_true, Bool.and_false]; rfl)
            clear hdn HLNb
            have OW := Lib.hid (own_frame HO1d.out (S := fun _ => False) ((Fr.refl _ wx).alloc (.cells #[.string (parL old)] 9)) fun _ _ => id)
            have hzz : w.heap.size ≤ (wx.alloc (.cells #[.string (parL old)] 9)).heap.size := by have := HBA.out.size; simp; omega
            have HO2e := Lib.hid (own_frame HO2d.out (S := fun _ => False) ((Fr.refl _ wx).alloc (.cells #[.string (parL old)] 9)) fun _ _ => id)
            have HBe := Lib.hid (HBA.out.alloc HBA.out.size (.cells #[.string (parL old)] 9))
            have OXe := Lib.hid (((Below.refl wx.heap.size wx).alloc (Nat.le_refl _) (.cells #[.string (parL old)] 9)).block _ (blk_lt OX.out) |>.trans OX.out)
            go_wp2_with (refine wpList_append_gg (by rfl) (.tmp 60) (.tmp 62) (by rfl) elStr (by rfl) OW.out (by rfl) (srcS wx (parL old)) (by unfold maxLen; have := parN_count old; omega) (by have := parN_count old; omega) hzz ?_)
            intro v5 w6 ho5 hf5 hv5
            have hown5 : w6.ownsRow w.heap.size 9 1 v5 (parN old ++ [parL old]).length ((parN old ++ [parL old]).map Value.string) := by
              rw [List.length_append, List.length_singleton, List.map_append]
              exact ho5
            have hst5 := StrsAt.own hown5
            have hst2 := StrsAt.own (own_frame HO2e.out hf5 fun b h2 h1 => HNEQ.out b h2 h1)
            have HB6 := Lib.hid (HBe.out.trans (hf5.toBelow hzz fun x hx => (HO1d.out.lt _ hx).1))
            have OX6 := Lib.hid ((hf5.block xb (blk_lt OXe.out) (fun h1 => absurd (HX1.out xb h1) (Nat.lt_irrefl _))).trans OXe.out)
            obtain ⟨ga, gc, rfl⟩ := own_shape ho5
            have HWI := Lib.hid (within_any hst5 hst2 (by rw [List.length_append, List.length_singleton]; have := parN_count old; omega) (by have := parN_count s; omega))
            clear ho5 hf5 hv5 hown5 hst5 hst2 OW HO1d HO2d HO2e HX1 HNEQ hzz HBe OXe HBA OX
            go_wp2_with fail
            refine HWI.out.mono ?_
            rintro e w7 ⟨rfl, hb7⟩
            have HB7 := Lib.hid (below_call HB6.out hb7 (Nat.le_refl _))
            have OX7 := Lib.hid ((hb7.block _ (blk_lt OX6.out)).trans OX6.out)
            clear hb7 HWI HB6 OX6
            cases hpr : isPre (parN old ++ [parL old]) (parN s) with
            | true =>
              have HRES : Hid (renameN M old s = (22, M)) := Lib.hid (by rw [HLNc.out, hpr, if_pos rfl])
              have HLT := Lib.hid (TLeft.same HT.out HFT.out HB7.out)
              clear HLNc hpr
              go_wp2_with fail
              go_ret
              rw [HRES.out]
              exact ⟨rfl, HLT.out⟩
            | false =>
              have HLN0 : Hid (renameN M old s = match entN M p (parL s) with
                    | some t => if t = n then (0, M) else if wrongN M t (isDir M n) ≠ 0 then (wrongN M t (isDir M n), M) else movedN M (dropT M p (parL s) t) old s p n
                    | none => movedN M M old s p n) := Lib.hid (by rw [HLNc.out, hpr, if_neg (by decide)])
              have HPRE : Hid ((isDir M n && isPre (parN old ++ [parL old]) (parN s)) = false) := Lib.hid (by rw [hpr, Bool.and_false])
              have x2 := cell_blk_some OX7.out (i := 2) rfl
              clear HLNc hpr
              cases hsd : splitD s with
              | true =>
                have HDX := Lib.hid (dir_any (HT.out.below HB7.out) HI.out)
                rw [HPN.out, HDN.out] at HDX
                unfold nptr at HDX
                rw [hsd] at x2 OX7
                have HSD := Lib.hid hsd
                clear hsd
                go_wp2_with fail
                refine HDX.out.mono ?_
                rintro e wx2 ⟨rfl, rfl⟩
                clear HDX
                cases hen : entN M p (parL s) with
                | none =>
                  have HEN := Lib.hid hen
                  rw [hen] at HLN0
                  have HLN : Hid (renameN M old s = movedN M M old s p n) := Lib.hid HLN0.out
                  clear hen HLN0
                  have hTW := HT.out.below HB7.out
                  have hnb := hTW.node p bp nd HPP.out HM.out
                  rw [HEE.out] at hnb
                  have m1 := cell_blk_some hnb (i := 1) rfl
                  have x0 := cell_blk_some OX7.out (i := 0) rfl
                  have hlk : (Instr.lookup 69 (.map (some eb)) (.string (parL s)) false).run Tryz.prog wx2 = .ok (.pointer none) wx2 := by
                    obtain ⟨eb2, he2, hlk2⟩ := hTW.look HM.out HND.out (parL s)
                    obtain rfl : eb = eb2 := Option.some.inj (HEE.out.symm.trans he2)
                    rw [hlk2, HEN.out]
                    rfl

                  clear hTW hnb
                  have heq := fun w => run_eql_nil_left (P := Tryz.prog) w ⟨bn, 0, none⟩ Tryz.underlying68
                  have HBR : Hid (Below w.heap.size w wx2.drew) := Lib.hid (below_drewN HB7.out 1)
                  have OXR : Hid (wx2.drew.heap[xb]? = _) := Lib.hid (show wx2.drew.heap[xb]? = _ from OX7.out)
                  have HDX := Lib.hid (dir_any (HT.out.below HBR.out) HI.out)
                  rw [HPN.out, HDN.out] at HDX
                  unfold nptr at HDX
                  have x3 := cell_blk_some OXR.out (i := 3) rfl
                  have HDE : Hid (Calls Tryz.prog 135 #[nptr (P n)] wx2.drew fun e w' => e = .returned (.int .i64 (deepN M n)) ∧ Below wx2.drew.heap.size wx2.drew w') := Lib.hid ((deep_any HG.out.1 HG.out.2 256 (parN old ++ [parL old]) n wx2.drew HPN2.out (by omega) (HT.out.below HBR.out)).mono fun e w' ⟨D, q1, q2, q3⟩ => ⟨by rw [q1, deepN_of q2], q3⟩)
                  rw [HPN.out] at HDE
                  unfold nptr at HDE
                  have HDB : Hid (0 ≤ deepN M n ∧ deepN M n ≤ 256) := Lib.hid (by
                    obtain ⟨D, hD⟩ := deep_exists HG.out.2 HPN2.out
                    rw [deepN_of hD]
                    exact hD.bd HG.out.2 HPN2.out)
                  have hlg := HLG.out
                  have hD := HDB.out
                  have hwr : IntKind.i64.wrap (longN (parN s ++ [parL s]) + deepN M n) = longN (parN s ++ [parL s]) + deepN M n := IntWalk.i64_in _ (by omega)
                  clear hlg hD
                  by_cases hlong : 255 < longN (parN s ++ [parL s]) + deepN M n
                  · have hq : decide (255 < longN (parN s ++ [parL s]) + deepN M n) = true := decide_eq_true hlong
                    have HRES : Hid (renameN M old s = (36, M)) := Lib.hid (by rw [HLN.out]; unfold movedN; rw [HDN.out, Bool.true_and, if_pos hq])
                    go_wp2_with fail
                    go_region_law
                      (first
                        | (go_simp; go_at_call 36
                           refine HDX.out.mono ?_
                           rintro e wy ⟨rfl, rfl⟩
                           dsimp only)
                        | (go_simp; go_at_call 135
                           refine HDE.out.mono ?_
                           rintro e wz ⟨rfl, hbz⟩
                           have HBZ := Lib.hid (below_call HBR.out hbz (Nat.le_refl _))
                           have HOXZ := Lib.hid ((hbz.block _ (blk_lt OXR.out)).trans OXR.out)
                           have x3z := cell_blk_some HOXZ.out (i := 3) rfl
                           clear hbz
                           dsimp only))
                    all_goals
                      have HLT := Lib.hid (TLeft.same HT.out HFT.out HBZ.out)
                      go_wp2_with fail
                      go_ret
                      rw [HRES.out]
                      exact ⟨rfl, HLT.out⟩
                  · have hq : decide (255 < longN (parN s ++ [parL s]) + deepN M n) = false := decide_eq_false hlong
                    have HML : Hid ((isDir M n && decide (255 < longN (parN s ++ [parL s]) + deepN M n)) = false) := Lib.hid (by rw [HDN.out, hq]; rfl)
                    go_wp2_with fail
                    go_region_law
                      (first
                        | (go_simp; go_at_call 36
                           refine HDX.out.mono ?_
                           rintro e wy ⟨rfl, rfl⟩
                           dsimp only)
                        | (go_simp; go_at_call 135
                           refine HDE.out.mono ?_
                           rintro e wz ⟨rfl, hbz⟩
                           have HBZ := Lib.hid (below_call HBR.out hbz (Nat.le_refl _))
                           have HOXZ := Lib.hid ((hbz.block _ (blk_lt OXR.out)).trans OXR.out)
                           have x3z := cell_blk_some HOXZ.out (i := 3) rfl
                           clear hbz
                           dsimp only))
                    all_goals
                      clear hlong hwr hq x3 x3z HDE HDX
                      have hTW := HT.out.below HBZ.out
                      have hnb := hTW.node p bp nd HPP.out HM.out
                      rw [HEE.out] at hnb
                      have m1 := cell_blk_some hnb (i := 1) rfl
                      have x0 := cell_blk_some HOXZ.out (i := 0) rfl
                      have hlk : (Instr.lookup 69 (.map (some eb)) (.string (parL s)) false).run Tryz.prog wz = .ok (.pointer none) wz := by
                        obtain ⟨eb2, he2, hlk2⟩ := hTW.look HM.out HND.out (parL s)
                        obtain rfl : eb = eb2 := Option.some.inj (HEE.out.symm.trans he2)
                        rw [hlk2, HEN.out]
                        rfl

                      clear hTW hnb
                      have HBD := Lib.hid HBZ.out
                      have OXD := Lib.hid HOXZ.out
                      have HTC := Lib.hid (HT.out.below HBD.out)
                      have HFC : Hid (∀ x, TFoot tb nb P E V x → TFoot tb nb P E V x) := Lib.hid fun _ h => h
                      have HFRC : Hid (Fr F w wz) := Lib.hid (Fr.below HBD.out)
                      have HSC : Hid (w.heap.size ≤ wz.heap.size) := Lib.hid HBD.out.size
                      have HPNC := Lib.hid HPN.out
                      have HPPC := Lib.hid HPP.out
                      have OXC := Lib.hid OXD.out
                      have HMV := Lib.hid (MvOk.facts (M1 := M) ⟨HLF.out, HEFO.out, HLD.out, HDD.out, HPRE.out, .inl ⟨HEN.out, rfl⟩⟩ HG.out)
                      have HRES : Hid (renameN M old s = (0, moveM M f (parL old) p (parL s) n)) := Lib.hid (by
                        rw [HLN.out]; unfold movedN; rw [HML.out, if_neg (by decide), HMV.out.2.1])
                      have x1 := cell_blk_some OXD.out (i := 1) rfl
                      have hdm := move_del HTC.out HMV.out.2.2.1
                      obtain ⟨bf, -, -, hbf, -⟩ := hdm
                      have hpv := place_good (P := P) HE.out HMV.out.2.1 (ent_dir HMV.out.2.2.1)
                      rw [hbf] at hpv
                      have HBF := Lib.hid hbf
                      have HP4 := Lib.hid (place_any HTC.out old HOZ.out)
                      rw [hpv] at HP4
                      clear hpv hbf
                      unfold nptr placeA at HP4
                      go_wp2_with fail
                      refine HP4.out.mono ?_
                      rintro e wd ⟨rfl, hbd⟩
                      clear hlk m1 x0 x1
                      have OXE : Hid ((wd.alloc (.cells #[.pointer (some ⟨bf, 0, none⟩), .string (parL old), .bool (splitD old), .int .i64 (longN (parN old ++ [parL old]))] 102)).heap[wd.heap.size]? = some (.cells #[.pointer (some ⟨bf, 0, none⟩), .string (parL old), .bool (splitD old), .int .i64 (longN (parN old ++ [parL old]))] 102 (0, 0))) := Lib.hid (blk_new rfl)
                      have HBE := Lib.hid (below_call hbd (show Below wd.heap.size wd (wd.alloc (.cells #[.pointer (some ⟨bf, 0, none⟩), .string (parL old), .bool (splitD old), .int .i64 (longN (parN old ++ [parL old]))] 102)) from (Below.refl _ wd).alloc (Nat.le_refl _) _) (Nat.le_refl _))
                      have HXD : Hid (wz.heap.size ≤ wd.heap.size) := Lib.hid hbd.size
                      clear hbd HP4
                      obtain ⟨wE, hwE⟩ : ∃ wE, wE = wd.alloc (.cells #[.pointer (some ⟨bf, 0, none⟩), .string (parL old), .bool (splitD old), .int .i64 (longN (parN old ++ [parL old]))] 102) := ⟨_, rfl⟩
                      obtain ⟨xd, hxd⟩ : ∃ xd, xd = wd.heap.size := ⟨_, rfl⟩
                      rw [← hwE, ← hxd] at OXE
                      rw [← hwE] at HBE
                      rw [← hxd] at HXD
                      have HWE := Lib.hid hwE; have HXDE := Lib.hid hxd
                      clear hwE hxd
                      go_wp2_with fail
                      rw [← HWE.out, ← HXDE.out]
                      obtain ⟨bf2, ef, ndf, hbf2, hnf, hef, ⟨ess, cc, hess⟩, w9, hdel, h9, hf9⟩ := move_del (HTC.out.below HBE.out) HMV.out.2.2.1
                      obtain rfl : bf2 = bf := Option.some.inj (hbf2.symm.trans HBF.out)
                      have x0 := cell_blk_some OXE.out (i := 0) rfl
                      have x1 := cell_blk_some OXE.out (i := 1) rfl
                      have m1 := cell_blk_some hnf (i := 1) rfl
                      have hxbE : wE.heap[xb]? = _ := (HBE.out.block _ (blk_lt OXC.out)).trans OXC.out
                      have OX9 := Lib.hid ((hf9.block xb (blk_lt hxbE) (fun e => by rw [e, hess] at hxbE; injection hxbE with hxbE; cases hxbE)).trans hxbE)
                      have H9 := Lib.hid h9; have HF9 := Lib.hid hf9; have HEFE := Lib.hid hef
                      clear hbf2 hnf hef hess h9 hf9 hxbE
                      go_still_tail 7, (by kernel_rfl)
                      change wpList _ _ _ _ _ wE.drew
                      have hd9 : isDir (setE M f (updE (entN M f) (parL old) none)) p = true := by
                        obtain ⟨_, _, q1, q2⟩ := isDir_there (ent_dir HMV.out.2.2.1)
                        rw [isDir_setE q1 q2]; exact HMV.out.2.2.2.2.1
                      have hn9 : (setE M f (updE (entN M f) (parL old) none) n).isSome = true := by
                        obtain ⟨_, _, q1, q2⟩ := isDir_there (ent_dir HMV.out.2.2.1)
                        rw [some_setE q1]; exact HMV.out.1.1.ok.ent _ _ _ HMV.out.2.2.1
                      obtain ⟨bp2, ep, ndp, hbp2, hnp, hep, w10, hput, h10, hf10⟩ := move_put (en := parL s) H9.out hd9 hn9 HPNC.out
                      obtain rfl : bp2 = bp := Option.some.inj (hbp2.symm.trans HPPC.out)
                      have y0 := cell_blk_some OX9.out (i := 0) rfl
                      have n1 := cell_blk_some hnp (i := 1) rfl
                      have H10 := Lib.hid h10; have HF10 := Lib.hid hf10; have HEPE := Lib.hid hep
                      clear hd9 hn9 hbp2 hnp hep h10 hf10 x0 x1 m1
                      go_wp2_with fail
                      go_ret
                      rw [HRES.out]
                      refine ⟨rfl, ⟨_, _, _, _, H10.out, fun x hx => .inl (HFT.out x (HFC.out x hx))⟩, ?_⟩
                      exact (((HFRC.out.trans (Fr.below HBE.out)).trans (HF9.out.tell fun x hx => HFT.out x (HFC.out x (.inr (.inr (.inr (.inl ⟨f, by rw [hx]; exact HEFE.out⟩))))))).trans (HF10.out.tell fun x hx => HFT.out x (HFC.out x (.inr (.inr (.inr (.inl ⟨p, by rw [hx]; exact HEPE.out⟩)))))))
                | some t =>
                  have HEN := Lib.hid hen
                  rw [hen] at HLN0
                  have HLN1 : Hid (renameN M old s = if t = n then (0, M) else if wrongN M t (isDir M n) ≠ 0 then (wrongN M t (isDir M n), M) else movedN M (dropT M p (parL s) t) old s p n) := Lib.hid HLN0.out
                  have hts := HG.out.1.ok.ent p (parL s) t hen
                  obtain ⟨ndt, hmt⟩ := Option.isSome_iff_exists.1 hts
                  obtain ⟨bt, hbt, _⟩ := HT.out.at_ hmt
                  have HMT := Lib.hid hmt; have HPTT := Lib.hid hbt
                  clear hen HLN0 hts hmt hbt
                  have hTW := HT.out.below HB7.out
                  have hnb := hTW.node p bp nd HPP.out HM.out
                  rw [HEE.out] at hnb
                  have m1 := cell_blk_some hnb (i := 1) rfl
                  have x0 := cell_blk_some OX7.out (i := 0) rfl
                  have hlk : (Instr.lookup 69 (.map (some eb)) (.string (parL s)) false).run Tryz.prog wx2 = .ok (.pointer (some ⟨bt, 0, none⟩)) wx2 := by
                    obtain ⟨eb2, he2, hlk2⟩ := hTW.look HM.out HND.out (parL s)
                    obtain rfl : eb = eb2 := Option.some.inj (HEE.out.symm.trans he2)
                    rw [hlk2, HEN.out]
                    show Result.ok (nptr (P t)) _ = _
                    rw [HPTT.out]; rfl
                  clear hTW hnb
                  have HBB := Lib.hid HB7.out
                  have OXB := Lib.hid OX7.out
                  obtain ⟨jn, hjn, hjs⟩ := Option.map_eq_some_iff.1 node_info
                  by_cases htn : t = n
                  · subst htn
                    obtain rfl : bt = bn := Option.some.inj (HPTT.out.symm.trans HPN.out)
                    have heq := fun w => run_eql_ptr_same (P := Tryz.prog) w ⟨bt, 0, none⟩ Tryz.underlying68 hjn
                    have HRES : Hid (renameN M old s = (0, M)) := Lib.hid (by rw [HLN1.out, if_pos rfl])
                    have HLT := Lib.hid (TLeft.same HT.out HFT.out HBB.out)
                    go_wp2_with fail
                    go_ret
                    rw [HRES.out]
                    exact ⟨rfl, HLT.out⟩
                  · have HTN := Lib.hid htn
                    have hnet : (⟨bt, 0, none⟩ : Addr) ≠ ⟨bn, 0, none⟩ := fun e => htn (HT.out.pin t n bt HPTT.out (by rw [HPN.out]; injection e with e; rw [e]))
                    obtain ⟨ndn, hmn⟩ := Option.isSome_iff_exists.1 HI.out
                    have heq := run_eql_ptr_other wx2 (a := ⟨bt, 0, none⟩) (b := ⟨bn, 0, none⟩) Tryz.underlying68 hjn (by simpa using hjs) hnet ((HT.out.below HBB.out).node t bt ndt HPTT.out HMT.out) ((HT.out.below HBB.out).node n bn ndn HPN.out hmn)
                    have HDX := Lib.hid (dir_any (HT.out.below HBB.out) HI.out)
                    rw [HPN.out, HDN.out] at HDX
                    have HA := Lib.hid (notEmpty_any (HT.out.below HBB.out) (i := t) (by rw [HMT.out]; rfl))
                    rw [HPTT.out] at HA
                    unfold nptr at HDX HA
                    have HLN2 : Hid (renameN M old s = if wrongN M t true ≠ 0 then (wrongN M t true, M) else movedN M (dropT M p (parL s) t) old s p n) := Lib.hid (by rw [HLN1.out, if_neg htn, HDN.out])
                    clear htn hnet hmn HLN1
                    go_wp2_with fail
                    refine HDX.out.mono ?_
                    rintro e wy ⟨rfl, rfl⟩
                    clear heq HDX hlk m1 x0
                    by_cases hw : wrongN M t true = 0
                    · have HLN : Hid (renameN M old s = movedN M (dropT M p (parL s) t) old s p n) := Lib.hid (by rw [HLN2.out, if_neg (by rw [hw]; simp)])
                      have HNOT := Lib.hid (wrong_none hw)
                      rw [hw] at HA
                      have HTP : Hid (t ≠ p) := Lib.hid fun e => by have := HNOT.out (parL s); rw [e, HEN.out] at this; cases this
                      have HT2 : Hid (t ≠ 2) := Lib.hid fun e => HG.out.1.noroot p (parL s) (by rw [HEN.out, e])
                      have hlk := HG.out.1.lk t (HG.out.1.ok.ent p (parL s) t HEN.out)
                      rw [lkN_of HMT.out] at hlk
                      have HTL : Hid (1 ≤ ndt.links ∧ ndt.links ≤ 100) := Lib.hid ⟨hlk.1, hlk.2.1⟩
                      have HT1 : Hid (ndt.links = 1 → ∀ r x, r ≠ t → entN M r x = some t → r = p ∧ x = parL s) := Lib.hid fun h1 r x _ hx => HG.out.1.one (by rw [lkN_of HMT.out]; exact h1) HEN.out hx
                      clear hw HLN2 hlk
                      go_wp2_with fail
                      refine HA.out.mono ?_
                      rintro e wx ⟨rfl, rfl⟩
                      clear HA
                      have HBR : Hid (Below w.heap.size w wx.drew) := Lib.hid (below_drewN HBB.out 1)
                      have OXR : Hid (wx.drew.heap[xb]? = _) := Lib.hid (show wx.drew.heap[xb]? = _ from OXB.out)
                      have HDX := Lib.hid (dir_any (HT.out.below HBR.out) HI.out)
                      rw [HPN.out, HDN.out] at HDX
                      unfold nptr at HDX
                      have x3 := cell_blk_some OXR.out (i := 3) rfl
                      have HDE : Hid (Calls Tryz.prog 135 #[nptr (P n)] wx.drew fun e w' => e = .returned (.int .i64 (deepN M n)) ∧ Below wx.drew.heap.size wx.drew w') := Lib.hid ((deep_any HG.out.1 HG.out.2 256 (parN old ++ [parL old]) n wx.drew HPN2.out (by omega) (HT.out.below HBR.out)).mono fun e w' ⟨D, q1, q2, q3⟩ => ⟨by rw [q1, deepN_of q2], q3⟩)
                      rw [HPN.out] at HDE
                      unfold nptr at HDE
                      have HDB : Hid (0 ≤ deepN M n ∧ deepN M n ≤ 256) := Lib.hid (by
                        obtain ⟨D, hD⟩ := deep_exists HG.out.2 HPN2.out
                        rw [deepN_of hD]
                        exact hD.bd HG.out.2 HPN2.out)
                      have hlg := HLG.out
                      have hD := HDB.out
                      have hwr : IntKind.i64.wrap (longN (parN s ++ [parL s]) + deepN M n) = longN (parN s ++ [parL s]) + deepN M n := IntWalk.i64_in _ (by omega)
                      clear hlg hD
                      by_cases hlong : 255 < longN (parN s ++ [parL s]) + deepN M n
                      · have hq : decide (255 < longN (parN s ++ [parL s]) + deepN M n) = true := decide_eq_true hlong
                        have HRES : Hid (renameN M old s = (36, M)) := Lib.hid (by rw [HLN.out]; unfold movedN; rw [HDN.out, Bool.true_and, if_pos hq])
                        go_wp2_with fail
                        go_region_law
                          (first
                            | (go_simp; go_at_call 36
                               refine HDX.out.mono ?_
                               rintro e wy ⟨rfl, rfl⟩
                               dsimp only)
                            | (go_simp; go_at_call 135
                               refine HDE.out.mono ?_
                               rintro e wz ⟨rfl, hbz⟩
                               have HBZ := Lib.hid (below_call HBR.out hbz (Nat.le_refl _))
                               have HOXZ := Lib.hid ((hbz.block _ (blk_lt OXR.out)).trans OXR.out)
                               have x3z := cell_blk_some HOXZ.out (i := 3) rfl
                               clear hbz
                               dsimp only))
                        all_goals
                          have HLT := Lib.hid (TLeft.same HT.out HFT.out HBZ.out)
                          go_wp2_with fail
                          go_ret
                          rw [HRES.out]
                          exact ⟨rfl, HLT.out⟩
                      · have hq : decide (255 < longN (parN s ++ [parL s]) + deepN M n) = false := decide_eq_false hlong
                        have HML : Hid ((isDir M n && decide (255 < longN (parN s ++ [parL s]) + deepN M n)) = false) := Lib.hid (by rw [HDN.out, hq]; rfl)
                        go_wp2_with fail
                        go_region_law
                          (first
                            | (go_simp; go_at_call 36
                               refine HDX.out.mono ?_
                               rintro e wy ⟨rfl, rfl⟩
                               dsimp only)
                            | (go_simp; go_at_call 135
                               refine HDE.out.mono ?_
                               rintro e wz ⟨rfl, hbz⟩
                               have HBZ := Lib.hid (below_call HBR.out hbz (Nat.le_refl _))
                               have HOXZ := Lib.hid ((hbz.block _ (blk_lt OXR.out)).trans OXR.out)
                               have x3z := cell_blk_some HOXZ.out (i := 3) rfl
                               clear hbz
                               dsimp only))
                        all_goals
                          clear hlong hwr hq x3 x3z HDE HDX
                          have hTW := HT.out.below HBZ.out
                          have hnb := hTW.node p bp nd HPP.out HM.out
                          rw [HEE.out] at hnb
                          have m1 := cell_blk_some hnb (i := 1) rfl
                          have x0 := cell_blk_some HOXZ.out (i := 0) rfl
                          have hlk : (Instr.lookup 69 (.map (some eb)) (.string (parL s)) false).run Tryz.prog wz = .ok (.pointer (some ⟨bt, 0, none⟩)) wz := by
                            obtain ⟨eb2, he2, hlk2⟩ := hTW.look HM.out HND.out (parL s)
                            obtain rfl : eb = eb2 := Option.some.inj (HEE.out.symm.trans he2)
                            rw [hlk2, HEN.out]
                            show Result.ok (nptr (P t)) _ = _
                            rw [HPTT.out]; rfl
                          clear hTW hnb
                          have HBD := Lib.hid HBZ.out
                          have OXD := Lib.hid HOXZ.out
                          have x1 := cell_blk_some OXD.out (i := 1) rfl
                          have x2 := cell_blk_some OXD.out (i := 2) rfl
                          have x3 := cell_blk_some OXD.out (i := 3) rfl
                          have HDR := Lib.hid (drop_keep (ob := splitD s) (n := longN (parN s ++ [parL s])) (HT.out.below HBD.out) (F := TFoot tb nb P E V) (fun _ h => h) HM.out HFF.out HPP.out (s := parL s) (i := t) (by rw [← HEF.out]; exact HEN.out) HMT.out HTP.out HT2.out HTL.out HT1.out)
                          have HDT : Hid (dropT M p (parL s) t = dropM M p fq (parL s) t ndt) := Lib.hid (by unfold dropT; rw [HMT.out]; show dropM M p (entN M p) _ t ndt = _; rw [HEF.out])
                          rw [HSD.out] at HDR
                          unfold placeA at HDR
                          go_wp2_with fail
                          refine HDR.out.mono ?_
                          rintro e wc ⟨rfl, nb', P', E', V', hTC, hFC, hfrC, hPC⟩
                          rw [← HDT.out] at hTC
                          have HTC := Lib.hid hTC
                          have HFC := Lib.hid hFC
                          have HFRC : Hid (Fr F w wc) := Lib.hid ((Fr.below HBD.out).trans (hfrC.tell fun x hx => HFT.out x hx))
                          have HSC : Hid (w.heap.size ≤ wc.heap.size) := Lib.hid (Nat.le_trans HBD.out.size hfrC.size)
                          have HPNC : Hid (P' n = some bn) := Lib.hid ((hPC n (fun e => HTN.out e.symm)).trans HPN.out)
                          have HPPC : Hid (P' p = some bp) := Lib.hid ((hPC p (fun e => HTP.out e.symm)).trans HPP.out)
                          have OXC := Lib.hid ((hfrC.block xb (blk_lt OXD.out) (fun hx => absurd (HT.out.foot_lt' hx) (Nat.not_lt.2 HXW.out))).trans OXD.out)
                          clear hTC hFC hfrC hPC HDR HDT hlk m1 x0 x1 x2 x3
                          have HMV := Lib.hid (MvOk.facts (M1 := dropT M p (parL s) t) ⟨HLF.out, HEFO.out, HLD.out, HDD.out, HPRE.out, .inr ⟨t, HEN.out, HTN.out, HNOT.out, rfl⟩⟩ HG.out)
                          have HRES : Hid (renameN M old s = (0, moveM (dropT M p (parL s) t) f (parL old) p (parL s) n)) := Lib.hid (by
                            rw [HLN.out]; unfold movedN; rw [HML.out, if_neg (by decide), HMV.out.2.1])
                          generalize dropT M p (parL s) t = M1 at *
                          have hdm := move_del HTC.out HMV.out.2.2.1
                          obtain ⟨bf, -, -, hbf, -⟩ := hdm
                          have hpv := place_good (P := P') HE.out HMV.out.2.1 (ent_dir HMV.out.2.2.1)
                          rw [hbf] at hpv
                          have HBF := Lib.hid hbf
                          have HP4 := Lib.hid (place_any HTC.out old HOZ.out)
                          rw [hpv] at HP4
                          clear hpv hbf
                          unfold nptr placeA at HP4
                          go_wp2_with fail
                          refine HP4.out.mono ?_
                          rintro e wd ⟨rfl, hbd⟩
                          have OXE : Hid ((wd.alloc (.cells #[.pointer (some ⟨bf, 0, none⟩), .string (parL old), .bool (splitD old), .int .i64 (longN (parN old ++ [parL old]))] 102)).heap[wd.heap.size]? = some (.cells #[.pointer (some ⟨bf, 0, none⟩), .string (parL old), .bool (splitD old), .int .i64 (longN (parN old ++ [parL old]))] 102 (0, 0))) := Lib.hid (blk_new rfl)
                          have HBE := Lib.hid (below_call hbd (show Below wd.heap.size wd (wd.alloc (.cells #[.pointer (some ⟨bf, 0, none⟩), .string (parL old), .bool (splitD old), .int .i64 (longN (parN old ++ [parL old]))] 102)) from (Below.refl _ wd).alloc (Nat.le_refl _) _) (Nat.le_refl _))
                          have HXD : Hid (wc.heap.size ≤ wd.heap.size) := Lib.hid hbd.size
                          clear hbd HP4
                          obtain ⟨wE, hwE⟩ : ∃ wE, wE = wd.alloc (.cells #[.pointer (some ⟨bf, 0, none⟩), .string (parL old), .bool (splitD old), .int .i64 (longN (parN old ++ [parL old]))] 102) := ⟨_, rfl⟩
                          obtain ⟨xd, hxd⟩ : ∃ xd, xd = wd.heap.size := ⟨_, rfl⟩
                          rw [← hwE, ← hxd] at OXE
                          rw [← hwE] at HBE
                          rw [← hxd] at HXD
                          have HWE := Lib.hid hwE; have HXDE := Lib.hid hxd
                          clear hwE hxd
                          go_wp2_with fail
                          rw [← HWE.out, ← HXDE.out]
                          obtain ⟨bf2, ef, ndf, hbf2, hnf, hef, ⟨ess, cc, hess⟩, w9, hdel, h9, hf9⟩ := move_del (HTC.out.below HBE.out) HMV.out.2.2.1
                          obtain rfl : bf2 = bf := Option.some.inj (hbf2.symm.trans HBF.out)
                          have x0 := cell_blk_some OXE.out (i := 0) rfl
                          have x1 := cell_blk_some OXE.out (i := 1) rfl
                          have m1 := cell_blk_some hnf (i := 1) rfl
                          have hxbE : wE.heap[xb]? = _ := (HBE.out.block _ (blk_lt OXC.out)).trans OXC.out
                          have OX9 := Lib.hid ((hf9.block xb (blk_lt hxbE) (fun e => by rw [e, hess] at hxbE; injection hxbE with hxbE; cases hxbE)).trans hxbE)
                          have H9 := Lib.hid h9; have HF9 := Lib.hid hf9; have HEFE := Lib.hid hef
                          clear hbf2 hnf hef hess h9 hf9 hxbE
                          go_still_tail 7, (by kernel_rfl)
                          change wpList _ _ _ _ _ wE.drew
                          have hd9 : isDir (setE M1 f (updE (entN M1 f) (parL old) none)) p = true := by
                            obtain ⟨_, _, q1, q2⟩ := isDir_there (ent_dir HMV.out.2.2.1)
                            rw [isDir_setE q1 q2]; exact HMV.out.2.2.2.2.1
                          have hn9 : (setE M1 f (updE (entN M1 f) (parL old) none) n).isSome = true := by
                            obtain ⟨_, _, q1, q2⟩ := isDir_there (ent_dir HMV.out.2.2.1)
                            rw [some_setE q1]; exact HMV.out.1.1.ok.ent _ _ _ HMV.out.2.2.1
                          obtain ⟨bp2, ep, ndp, hbp2, hnp, hep, w10, hput, h10, hf10⟩ := move_put (en := parL s) H9.out hd9 hn9 HPNC.out
                          obtain rfl : bp2 = bp := Option.some.inj (hbp2.symm.trans HPPC.out)
                          have y0 := cell_blk_some OX9.out (i := 0) rfl
                          have n1 := cell_blk_some hnp (i := 1) rfl
                          have H10 := Lib.hid h10; have HF10 := Lib.hid hf10; have HEPE := Lib.hid hep
                          clear hd9 hn9 hbp2 hnp hep h10 hf10 x0 x1 m1
                          go_wp2_with fail
                          go_ret
                          rw [HRES.out]
                          refine ⟨rfl, ⟨_, _, _, _, H10.out, fun x hx => .inl (HFT.out x (HFC.out x hx))⟩, ?_⟩
                          exact (((HFRC.out.trans (Fr.below HBE.out)).trans (HF9.out.tell fun x hx => HFT.out x (HFC.out x (.inr (.inr (.inr (.inl ⟨f, by rw [hx]; exact HEFE.out⟩))))))).trans (HF10.out.tell fun x hx => HFT.out x (HFC.out x (.inr (.inr (.inr (.inl ⟨p, by rw [hx]; exact HEPE.out⟩)))))))
                    · have HRES : Hid (renameN M old s = (wrongN M t true, M)) := Lib.hid (by rw [HLN2.out, if_pos hw])
                      have HLT := Lib.hid (TLeft.same HT.out HFT.out HBB.out)
                      have hc2 : (wrongN M t true != 0) = true := by simp [hw]
                      generalize wrongN M t true = cw at *
                      clear hw HLN2
                      go_wp2_with fail
                      refine HA.out.mono ?_
                      rintro e wx ⟨rfl, rfl⟩
                      clear HA
                      go_wp2_with fail
                      go_ret
                      rw [HRES.out]
                      exact ⟨rfl, HLT.out⟩
              | false =>
                rw [hsd] at x2 OX7
                have HSD := Lib.hid hsd
                clear hsd
                cases hen : entN M p (parL s) with
                | none =>
                  have HEN := Lib.hid hen
                  rw [hen] at HLN0
                  have HLN : Hid (renameN M old s = movedN M M old s p n) := Lib.hid HLN0.out
                  clear hen HLN0
                  have hTW := HT.out.below HB7.out
                  have hnb := hTW.node p bp nd HPP.out HM.out
                  rw [HEE.out] at hnb
                  have m1 := cell_blk_some hnb (i := 1) rfl
                  have x0 := cell_blk_some OX7.out (i := 0) rfl
                  have hlk : (Instr.lookup 69 (.map (some eb)) (.string (parL s)) false).run Tryz.prog w7 = .ok (.pointer none) w7 := by
                    obtain ⟨eb2, he2, hlk2⟩ := hTW.look HM.out HND.out (parL s)
                    obtain rfl : eb = eb2 := Option.some.inj (HEE.out.symm.trans he2)
                    rw [hlk2, HEN.out]
                    rfl

                  clear hTW hnb
                  have heq := fun w => run_eql_nil_left (P := Tryz.prog) w ⟨bn, 0, none⟩ Tryz.underlying68
                  have HBR : Hid (Below w.heap.size w w7.drew) := Lib.hid (below_drewN HB7.out 1)
                  have OXR : Hid (w7.drew.heap[xb]? = _) := Lib.hid (show w7.drew.heap[xb]? = _ from OX7.out)
                  have HDX := Lib.hid (dir_any (HT.out.below HBR.out) HI.out)
                  rw [HPN.out, HDN.out] at HDX
                  unfold nptr at HDX
                  have x3 := cell_blk_some OXR.out (i := 3) rfl
                  have HDE : Hid (Calls Tryz.prog 135 #[nptr (P n)] w7.drew fun e w' => e = .returned (.int .i64 (deepN M n)) ∧ Below w7.drew.heap.size w7.drew w') := Lib.hid ((deep_any HG.out.1 HG.out.2 256 (parN old ++ [parL old]) n w7.drew HPN2.out (by omega) (HT.out.below HBR.out)).mono fun e w' ⟨D, q1, q2, q3⟩ => ⟨by rw [q1, deepN_of q2], q3⟩)
                  rw [HPN.out] at HDE
                  unfold nptr at HDE
                  have HDB : Hid (0 ≤ deepN M n ∧ deepN M n ≤ 256) := Lib.hid (by
                    obtain ⟨D, hD⟩ := deep_exists HG.out.2 HPN2.out
                    rw [deepN_of hD]
                    exact hD.bd HG.out.2 HPN2.out)
                  have hlg := HLG.out
                  have hD := HDB.out
                  have hwr : IntKind.i64.wrap (longN (parN s ++ [parL s]) + deepN M n) = longN (parN s ++ [parL s]) + deepN M n := IntWalk.i64_in _ (by omega)
                  clear hlg hD
                  by_cases hlong : 255 < longN (parN s ++ [parL s]) + deepN M n
                  · have hq : decide (255 < longN (parN s ++ [parL s]) + deepN M n) = true := decide_eq_true hlong
                    have HRES : Hid (renameN M old s = (36, M)) := Lib.hid (by rw [HLN.out]; unfold movedN; rw [HDN.out, Bool.true_and, if_pos hq])
                    go_wp2_with fail
                    go_region_law
                      (first
                        | (go_simp; go_at_call 36
                           refine HDX.out.mono ?_
                           rintro e wy ⟨rfl, rfl⟩
                           dsimp only)
                        | (go_simp; go_at_call 135
                           refine HDE.out.mono ?_
                           rintro e wz ⟨rfl, hbz⟩
                           have HBZ := Lib.hid (below_call HBR.out hbz (Nat.le_refl _))
                           have HOXZ := Lib.hid ((hbz.block _ (blk_lt OXR.out)).trans OXR.out)
                           have x3z := cell_blk_some HOXZ.out (i := 3) rfl
                           clear hbz
                           dsimp only))
                    all_goals
                      have HLT := Lib.hid (TLeft.same HT.out HFT.out HBZ.out)
                      go_wp2_with fail
                      go_ret
                      rw [HRES.out]
                      exact ⟨rfl, HLT.out⟩
                  · have hq : decide (255 < longN (parN s ++ [parL s]) + deepN M n) = false := decide_eq_false hlong
                    have HML : Hid ((isDir M n && decide (255 < longN (parN s ++ [parL s]) + deepN M n)) = false) := Lib.hid (by rw [HDN.out, hq]; rfl)
                    go_wp2_with fail
                    go_region_law
                      (first
                        | (go_simp; go_at_call 36
                           refine HDX.out.mono ?_
                           rintro e wy ⟨rfl, rfl⟩
                           dsimp only)
                        | (go_simp; go_at_call 135
                           refine HDE.out.mono ?_
                           rintro e wz ⟨rfl, hbz⟩
                           have HBZ := Lib.hid (below_call HBR.out hbz (Nat.le_refl _))
                           have HOXZ := Lib.hid ((hbz.block _ (blk_lt OXR.out)).trans OXR.out)
                           have x3z := cell_blk_some HOXZ.out (i := 3) rfl
                           clear hbz
                           dsimp only))
                    all_goals
                      clear hlong hwr hq x3 x3z HDE HDX
                      have hTW := HT.out.below HBZ.out
                      have hnb := hTW.node p bp nd HPP.out HM.out
                      rw [HEE.out] at hnb
                      have m1 := cell_blk_some hnb (i := 1) rfl
                      have x0 := cell_blk_some HOXZ.out (i := 0) rfl
                      have hlk : (Instr.lookup 69 (.map (some eb)) (.string (parL s)) false).run Tryz.prog wz = .ok (.pointer none) wz := by
                        obtain ⟨eb2, he2, hlk2⟩ := hTW.look HM.out HND.out (parL s)
                        obtain rfl : eb = eb2 := Option.some.inj (HEE.out.symm.trans he2)
                        rw [hlk2, HEN.out]
                        rfl

                      clear hTW hnb
                      have HBD := Lib.hid HBZ.out
                      have OXD := Lib.hid HOXZ.out
                      have HTC := Lib.hid (HT.out.below HBD.out)
                      have HFC : Hid (∀ x, TFoot tb nb P E V x → TFoot tb nb P E V x) := Lib.hid fun _ h => h
                      have HFRC : Hid (Fr F w wz) := Lib.hid (Fr.below HBD.out)
                      have HSC : Hid (w.heap.size ≤ wz.heap.size) := Lib.hid HBD.out.size
                      have HPNC := Lib.hid HPN.out
                      have HPPC := Lib.hid HPP.out
                      have OXC := Lib.hid OXD.out
                      have HMV := Lib.hid (MvOk.facts (M1 := M) ⟨HLF.out, HEFO.out, HLD.out, HDD.out, HPRE.out, .inl ⟨HEN.out, rfl⟩⟩ HG.out)
                      have HRES : Hid (renameN M old s = (0, moveM M f (parL old) p (parL s) n)) := Lib.hid (by
                        rw [HLN.out]; unfold movedN; rw [HML.out, if_neg (by decide), HMV.out.2.1])
                      have x1 := cell_blk_some OXD.out (i := 1) rfl
                      have hdm := move_del HTC.out HMV.out.2.2.1
                      obtain ⟨bf, -, -, hbf, -⟩ := hdm
                      have hpv := place_good (P := P) HE.out HMV.out.2.1 (ent_dir HMV.out.2.2.1)
                      rw [hbf] at hpv
                      have HBF := Lib.hid hbf
                      have HP4 := Lib.hid (place_any HTC.out old HOZ.out)
                      rw [hpv] at HP4
                      clear hpv hbf
                      unfold nptr placeA at HP4
                      go_wp2_with fail
                      refine HP4.out.mono ?_
                      rintro e wd ⟨rfl, hbd⟩
                      clear hlk m1 x0 x1
                      have OXE : Hid ((wd.alloc (.cells #[.pointer (some ⟨bf, 0, none⟩), .string (parL old), .bool (splitD old), .int .i64 (longN (parN old ++ [parL old]))] 102)).heap[wd.heap.size]? = some (.cells #[.pointer (some ⟨bf, 0, none⟩), .string (parL old), .bool (splitD old), .int .i64 (longN (parN old ++ [parL old]))] 102 (0, 0))) := Lib.hid (blk_new rfl)
                      have HBE := Lib.hid (below_call hbd (show Below wd.heap.size wd (wd.alloc (.cells #[.pointer (some ⟨bf, 0, none⟩), .string (parL old), .bool (splitD old), .int .i64 (longN (parN old ++ [parL old]))] 102)) from (Below.refl _ wd).alloc (Nat.le_refl _) _) (Nat.le_refl _))
                      have HXD : Hid (wz.heap.size ≤ wd.heap.size) := Lib.hid hbd.size
                      clear hbd HP4
                      obtain ⟨wE, hwE⟩ : ∃ wE, wE = wd.alloc (.cells #[.pointer (some ⟨bf, 0, none⟩), .string (parL old), .bool (splitD old), .int .i64 (longN (parN old ++ [parL old]))] 102) := ⟨_, rfl⟩
                      obtain ⟨xd, hxd⟩ : ∃ xd, xd = wd.heap.size := ⟨_, rfl⟩
                      rw [← hwE, ← hxd] at OXE
                      rw [← hwE] at HBE
                      rw [← hxd] at HXD
                      have HWE := Lib.hid hwE; have HXDE := Lib.hid hxd
                      clear hwE hxd
                      go_wp2_with fail
                      rw [← HWE.out, ← HXDE.out]
                      obtain ⟨bf2, ef, ndf, hbf2, hnf, hef, ⟨ess, cc, hess⟩, w9, hdel, h9, hf9⟩ := move_del (HTC.out.below HBE.out) HMV.out.2.2.1
                      obtain rfl : bf2 = bf := Option.some.inj (hbf2.symm.trans HBF.out)
                      have x0 := cell_blk_some OXE.out (i := 0) rfl
                      have x1 := cell_blk_some OXE.out (i := 1) rfl
                      have m1 := cell_blk_some hnf (i := 1) rfl
                      have hxbE : wE.heap[xb]? = _ := (HBE.out.block _ (blk_lt OXC.out)).trans OXC.out
                      have OX9 := Lib.hid ((hf9.block xb (blk_lt hxbE) (fun e => by rw [e, hess] at hxbE; injection hxbE with hxbE; cases hxbE)).trans hxbE)
                      have H9 := Lib.hid h9; have HF9 := Lib.hid hf9; have HEFE := Lib.hid hef
                      clear hbf2 hnf hef hess h9 hf9 hxbE
                      go_still_tail 7, (by kernel_rfl)
                      change wpList _ _ _ _ _ wE.drew
                      have hd9 : isDir (setE M f (updE (entN M f) (parL old) none)) p = true := by
                        obtain ⟨_, _, q1, q2⟩ := isDir_there (ent_dir HMV.out.2.2.1)
                        rw [isDir_setE q1 q2]; exact HMV.out.2.2.2.2.1
                      have hn9 : (setE M f (updE (entN M f) (parL old) none) n).isSome = true := by
                        obtain ⟨_, _, q1, q2⟩ := isDir_there (ent_dir HMV.out.2.2.1)
                        rw [some_setE q1]; exact HMV.out.1.1.ok.ent _ _ _ HMV.out.2.2.1
                      obtain ⟨bp2, ep, ndp, hbp2, hnp, hep, w10, hput, h10, hf10⟩ := move_put (en := parL s) H9.out hd9 hn9 HPNC.out
                      obtain rfl : bp2 = bp := Option.some.inj (hbp2.symm.trans HPPC.out)
                      have y0 := cell_blk_some OX9.out (i := 0) rfl
                      have n1 := cell_blk_some hnp (i := 1) rfl
                      have H10 := Lib.hid h10; have HF10 := Lib.hid hf10; have HEPE := Lib.hid hep
                      clear hd9 hn9 hbp2 hnp hep h10 hf10 x0 x1 m1
                      go_wp2_with fail
                      go_ret
                      rw [HRES.out]
                      refine ⟨rfl, ⟨_, _, _, _, H10.out, fun x hx => .inl (HFT.out x (HFC.out x hx))⟩, ?_⟩
                      exact (((HFRC.out.trans (Fr.below HBE.out)).trans (HF9.out.tell fun x hx => HFT.out x (HFC.out x (.inr (.inr (.inr (.inl ⟨f, by rw [hx]; exact HEFE.out⟩))))))).trans (HF10.out.tell fun x hx => HFT.out x (HFC.out x (.inr (.inr (.inr (.inl ⟨p, by rw [hx]; exact HEPE.out⟩)))))))
                | some t =>
                  have HEN := Lib.hid hen
                  rw [hen] at HLN0
                  have HLN1 : Hid (renameN M old s = if t = n then (0, M) else if wrongN M t (isDir M n) ≠ 0 then (wrongN M t (isDir M n), M) else movedN M (dropT M p (parL s) t) old s p n) := Lib.hid HLN0.out
                  have hts := HG.out.1.ok.ent p (parL s) t hen
                  obtain ⟨ndt, hmt⟩ := Option.isSome_iff_exists.1 hts
                  obtain ⟨bt, hbt, _⟩ := HT.out.at_ hmt
                  have HMT := Lib.hid hmt; have HPTT := Lib.hid hbt
                  clear hen HLN0 hts hmt hbt
                  have hTW := HT.out.below HB7.out
                  have hnb := hTW.node p bp nd HPP.out HM.out
                  rw [HEE.out] at hnb
                  have m1 := cell_blk_some hnb (i := 1) rfl
                  have x0 := cell_blk_some OX7.out (i := 0) rfl
                  have hlk : (Instr.lookup 69 (.map (some eb)) (.string (parL s)) false).run Tryz.prog w7 = .ok (.pointer (some ⟨bt, 0, none⟩)) w7 := by
                    obtain ⟨eb2, he2, hlk2⟩ := hTW.look HM.out HND.out (parL s)
                    obtain rfl : eb = eb2 := Option.some.inj (HEE.out.symm.trans he2)
                    rw [hlk2, HEN.out]
                    show Result.ok (nptr (P t)) _ = _
                    rw [HPTT.out]; rfl
                  clear hTW hnb
                  have HBB := Lib.hid HB7.out
                  have OXB := Lib.hid OX7.out
                  obtain ⟨jn, hjn, hjs⟩ := Option.map_eq_some_iff.1 node_info
                  by_cases htn : t = n
                  · subst htn
                    obtain rfl : bt = bn := Option.some.inj (HPTT.out.symm.trans HPN.out)
                    have heq := fun w => run_eql_ptr_same (P := Tryz.prog) w ⟨bt, 0, none⟩ Tryz.underlying68 hjn
                    have HRES : Hid (renameN M old s = (0, M)) := Lib.hid (by rw [HLN1.out, if_pos rfl])
                    have HLT := Lib.hid (TLeft.same HT.out HFT.out HBB.out)
                    go_wp2_with fail
                    go_ret
                    rw [HRES.out]
                    exact ⟨rfl, HLT.out⟩
                  · have HTN := Lib.hid htn
                    have hnet : (⟨bt, 0, none⟩ : Addr) ≠ ⟨bn, 0, none⟩ := fun e => htn (HT.out.pin t n bt HPTT.out (by rw [HPN.out]; injection e with e; rw [e]))
                    obtain ⟨ndn, hmn⟩ := Option.isSome_iff_exists.1 HI.out
                    have heq := run_eql_ptr_other w7 (a := ⟨bt, 0, none⟩) (b := ⟨bn, 0, none⟩) Tryz.underlying68 hjn (by simpa using hjs) hnet ((HT.out.below HBB.out).node t bt ndt HPTT.out HMT.out) ((HT.out.below HBB.out).node n bn ndn HPN.out hmn)
                    have HDX := Lib.hid (dir_any (HT.out.below HBB.out) HI.out)
                    rw [HPN.out, HDN.out] at HDX
                    have HA := Lib.hid (notEmpty_any (HT.out.below HBB.out) (i := t) (by rw [HMT.out]; rfl))
                    rw [HPTT.out] at HA
                    unfold nptr at HDX HA
                    have HLN2 : Hid (renameN M old s = if wrongN M t true ≠ 0 then (wrongN M t true, M) else movedN M (dropT M p (parL s) t) old s p n) := Lib.hid (by rw [HLN1.out, if_neg htn, HDN.out])
                    clear htn hnet hmn HLN1
                    go_wp2_with fail
                    refine HDX.out.mono ?_
                    rintro e wy ⟨rfl, rfl⟩
                    clear heq HDX hlk m1 x0
                    by_cases hw : wrongN M t true = 0
                    · have HLN : Hid (renameN M old s = movedN M (dropT M p (parL s) t) old s p n) := Lib.hid (by rw [HLN2.out, if_neg (by rw [hw]; simp)])
                      have HNOT := Lib.hid (wrong_none hw)
                      rw [hw] at HA
                      have HTP : Hid (t ≠ p) := Lib.hid fun e => by have := HNOT.out (parL s); rw [e, HEN.out] at this; cases this
                      have HT2 : Hid (t ≠ 2) := Lib.hid fun e => HG.out.1.noroot p (parL s) (by rw [HEN.out, e])
                      have hlk := HG.out.1.lk t (HG.out.1.ok.ent p (parL s) t HEN.out)
                      rw [lkN_of HMT.out] at hlk
                      have HTL : Hid (1 ≤ ndt.links ∧ ndt.links ≤ 100) := Lib.hid ⟨hlk.1, hlk.2.1⟩
                      have HT1 : Hid (ndt.links = 1 → ∀ r x, r ≠ t → entN M r x = some t → r = p ∧ x = parL s) := Lib.hid fun h1 r x _ hx => HG.out.1.one (by rw [lkN_of HMT.out]; exact h1) HEN.out hx
                      clear hw HLN2 hlk
                      go_wp2_with fail
                      refine HA.out.mono ?_
                      rintro e wx ⟨rfl, rfl⟩
                      clear HA
                      have HBR : Hid (Below w.heap.size w wx.drew) := Lib.hid (below_drewN HBB.out 1)
                      have OXR : Hid (wx.drew.heap[xb]? = _) := Lib.hid (show wx.drew.heap[xb]? = _ from OXB.out)
                      have HDX := Lib.hid (dir_any (HT.out.below HBR.out) HI.out)
                      rw [HPN.out, HDN.out] at HDX
                      unfold nptr at HDX
                      have x3 := cell_blk_some OXR.out (i := 3) rfl
                      have HDE : Hid (Calls Tryz.prog 135 #[nptr (P n)] wx.drew fun e w' => e = .returned (.int .i64 (deepN M n)) ∧ Below wx.drew.heap.size wx.drew w') := Lib.hid ((deep_any HG.out.1 HG.out.2 256 (parN old ++ [parL old]) n wx.drew HPN2.out (by omega) (HT.out.below HBR.out)).mono fun e w' ⟨D, q1, q2, q3⟩ => ⟨by rw [q1, deepN_of q2], q3⟩)
                      rw [HPN.out] at HDE
                      unfold nptr at HDE
                      have HDB : Hid (0 ≤ deepN M n ∧ deepN M n ≤ 256) := Lib.hid (by
                        obtain ⟨D, hD⟩ := deep_exists HG.out.2 HPN2.out
                        rw [deepN_of hD]
                        exact hD.bd HG.out.2 HPN2.out)
                      have hlg := HLG.out
                      have hD := HDB.out
                      have hwr : IntKind.i64.wrap (longN (parN s ++ [parL s]) + deepN M n) = longN (parN s ++ [parL s]) + deepN M n := IntWalk.i64_in _ (by omega)
                      clear hlg hD
                      by_cases hlong : 255 < longN (parN s ++ [parL s]) + deepN M n
                      · have hq : decide (255 < longN (parN s ++ [parL s]) + deepN M n) = true := decide_eq_true hlong
                        have HRES : Hid (renameN M old s = (36, M)) := Lib.hid (by rw [HLN.out]; unfold movedN; rw [HDN.out, Bool.true_and, if_pos hq])
                        go_wp2_with fail
                        go_region_law
                          (first
                            | (go_simp; go_at_call 36
                               refine HDX.out.mono ?_
                               rintro e wy ⟨rfl, rfl⟩
                               dsimp only)
                            | (go_simp; go_at_call 135
                               refine HDE.out.mono ?_
                               rintro e wz ⟨rfl, hbz⟩
                               have HBZ := Lib.hid (below_call HBR.out hbz (Nat.le_refl _))
                               have HOXZ := Lib.hid ((hbz.block _ (blk_lt OXR.out)).trans OXR.out)
                               have x3z := cell_blk_some HOXZ.out (i := 3) rfl
                               clear hbz
                               dsimp only))
                        all_goals
                          have HLT := Lib.hid (TLeft.same HT.out HFT.out HBZ.out)
                          go_wp2_with fail
                          go_ret
                          rw [HRES.out]
                          exact ⟨rfl, HLT.out⟩
                      · have hq : decide (255 < longN (parN s ++ [parL s]) + deepN M n) = false := decide_eq_false hlong
                        have HML : Hid ((isDir M n && decide (255 < longN (parN s ++ [parL s]) + deepN M n)) = false) := Lib.hid (by rw [HDN.out, hq]; rfl)
                        go_wp2_with fail
                        go_region_law
                          (first
                            | (go_simp; go_at_call 36
                               refine HDX.out.mono ?_
                               rintro e wy ⟨rfl, rfl⟩
                               dsimp only)
                            | (go_simp; go_at_call 135
                               refine HDE.out.mono ?_
                               rintro e wz ⟨rfl, hbz⟩
                               have HBZ := Lib.hid (below_call HBR.out hbz (Nat.le_refl _))
                               have HOXZ := Lib.hid ((hbz.block _ (blk_lt OXR.out)).trans OXR.out)
                               have x3z := cell_blk_some HOXZ.out (i := 3) rfl
                               clear hbz
                               dsimp only))
                        all_goals
                          clear hlong hwr hq x3 x3z HDE HDX
                          have hTW := HT.out.below HBZ.out
                          have hnb := hTW.node p bp nd HPP.out HM.out
                          rw [HEE.out] at hnb
                          have m1 := cell_blk_some hnb (i := 1) rfl
                          have x0 := cell_blk_some HOXZ.out (i := 0) rfl
                          have hlk : (Instr.lookup 69 (.map (some eb)) (.string (parL s)) false).run Tryz.prog wz = .ok (.pointer (some ⟨bt, 0, none⟩)) wz := by
                            obtain ⟨eb2, he2, hlk2⟩ := hTW.look HM.out HND.out (parL s)
                            obtain rfl : eb = eb2 := Option.some.inj (HEE.out.symm.trans he2)
                            rw [hlk2, HEN.out]
                            show Result.ok (nptr (P t)) _ = _
                            rw [HPTT.out]; rfl
                          clear hTW hnb
                          have HBD := Lib.hid HBZ.out
                          have OXD := Lib.hid HOXZ.out
                          have x1 := cell_blk_some OXD.out (i := 1) rfl
                          have x2 := cell_blk_some OXD.out (i := 2) rfl
                          have x3 := cell_blk_some OXD.out (i := 3) rfl
                          have HDR := Lib.hid (drop_keep (ob := splitD s) (n := longN (parN s ++ [parL s])) (HT.out.below HBD.out) (F := TFoot tb nb P E V) (fun _ h => h) HM.out HFF.out HPP.out (s := parL s) (i := t) (by rw [← HEF.out]; exact HEN.out) HMT.out HTP.out HT2.out HTL.out HT1.out)
                          have HDT : Hid (dropT M p (parL s) t = dropM M p fq (parL s) t ndt) := Lib.hid (by unfold dropT; rw [HMT.out]; show dropM M p (entN M p) _ t ndt = _; rw [HEF.out])
                          rw [HSD.out] at HDR
                          unfold placeA at HDR
                          go_wp2_with fail
                          refine HDR.out.mono ?_
                          rintro e wc ⟨rfl, nb', P', E', V', hTC, hFC, hfrC, hPC⟩
                          rw [← HDT.out] at hTC
                          have HTC := Lib.hid hTC
                          have HFC := Lib.hid hFC
                          have HFRC : Hid (Fr F w wc) := Lib.hid ((Fr.below HBD.out).trans (hfrC.tell fun x hx => HFT.out x hx))
                          have HSC : Hid (w.heap.size ≤ wc.heap.size) := Lib.hid (Nat.le_trans HBD.out.size hfrC.size)
                          have HPNC : Hid (P' n = some bn) := Lib.hid ((hPC n (fun e => HTN.out e.symm)).trans HPN.out)
                          have HPPC : Hid (P' p = some bp) := Lib.hid ((hPC p (fun e => HTP.out e.symm)).trans HPP.out)
                          have OXC := Lib.hid ((hfrC.block xb (blk_lt OXD.out) (fun hx => absurd (HT.out.foot_lt' hx) (Nat.not_lt.2 HXW.out))).trans OXD.out)
                          clear hTC hFC hfrC hPC HDR HDT hlk m1 x0 x1 x2 x3
                          have HMV := Lib.hid (MvOk.facts (M1 := dropT M p (parL s) t) ⟨HLF.out, HEFO.out, HLD.out, HDD.out, HPRE.out, .inr ⟨t, HEN.out, HTN.out, HNOT.out, rfl⟩⟩ HG.out)
                          have HRES : Hid (renameN M old s = (0, moveM (dropT M p (parL s) t) f (parL old) p (parL s) n)) := Lib.hid (by
                            rw [HLN.out]; unfold movedN; rw [HML.out, if_neg (by decide), HMV.out.2.1])
                          generalize dropT M p (parL s) t = M1 at *
                          have hdm := move_del HTC.out HMV.out.2.2.1
                          obtain ⟨bf, -, -, hbf, -⟩ := hdm
                          have hpv := place_good (P := P') HE.out HMV.out.2.1 (ent_dir HMV.out.2.2.1)
                          rw [hbf] at hpv
                          have HBF := Lib.hid hbf
                          have HP4 := Lib.hid (place_any HTC.out old HOZ.out)
                          rw [hpv] at HP4
                          clear hpv hbf
                          unfold nptr placeA at HP4
                          go_wp2_with fail
                          refine HP4.out.mono ?_
                          rintro e wd ⟨rfl, hbd⟩
                          have OXE : Hid ((wd.alloc (.cells #[.pointer (some ⟨bf, 0, none⟩), .string (parL old), .bool (splitD old), .int .i64 (longN (parN old ++ [parL old]))] 102)).heap[wd.heap.size]? = some (.cells #[.pointer (some ⟨bf, 0, none⟩), .string (parL old), .bool (splitD old), .int .i64 (longN (parN old ++ [parL old]))] 102 (0, 0))) := Lib.hid (blk_new rfl)
                          have HBE := Lib.hid (below_call hbd (show Below wd.heap.size wd (wd.alloc (.cells #[.pointer (some ⟨bf, 0, none⟩), .string (parL old), .bool (splitD old), .int .i64 (longN (parN old ++ [parL old]))] 102)) from (Below.refl _ wd).alloc (Nat.le_refl _) _) (Nat.le_refl _))
                          have HXD : Hid (wc.heap.size ≤ wd.heap.size) := Lib.hid hbd.size
                          clear hbd HP4
                          obtain ⟨wE, hwE⟩ : ∃ wE, wE = wd.alloc (.cells #[.pointer (some ⟨bf, 0, none⟩), .string (parL old), .bool (splitD old), .int .i64 (longN (parN old ++ [parL old]))] 102) := ⟨_, rfl⟩
                          obtain ⟨xd, hxd⟩ : ∃ xd, xd = wd.heap.size := ⟨_, rfl⟩
                          rw [← hwE, ← hxd] at OXE
                          rw [← hwE] at HBE
                          rw [← hxd] at HXD
                          have HWE := Lib.hid hwE; have HXDE := Lib.hid hxd
                          clear hwE hxd
                          go_wp2_with fail
                          rw [← HWE.out, ← HXDE.out]
                          obtain ⟨bf2, ef, ndf, hbf2, hnf, hef, ⟨ess, cc, hess⟩, w9, hdel, h9, hf9⟩ := move_del (HTC.out.below HBE.out) HMV.out.2.2.1
                          obtain rfl : bf2 = bf := Option.some.inj (hbf2.symm.trans HBF.out)
                          have x0 := cell_blk_some OXE.out (i := 0) rfl
                          have x1 := cell_blk_some OXE.out (i := 1) rfl
                          have m1 := cell_blk_some hnf (i := 1) rfl
                          have hxbE : wE.heap[xb]? = _ := (HBE.out.block _ (blk_lt OXC.out)).trans OXC.out
                          have OX9 := Lib.hid ((hf9.block xb (blk_lt hxbE) (fun e => by rw [e, hess] at hxbE; injection hxbE with hxbE; cases hxbE)).trans hxbE)
                          have H9 := Lib.hid h9; have HF9 := Lib.hid hf9; have HEFE := Lib.hid hef
                          clear hbf2 hnf hef hess h9 hf9 hxbE
                          go_still_tail 7, (by kernel_rfl)
                          change wpList _ _ _ _ _ wE.drew
                          have hd9 : isDir (setE M1 f (updE (entN M1 f) (parL old) none)) p = true := by
                            obtain ⟨_, _, q1, q2⟩ := isDir_there (ent_dir HMV.out.2.2.1)
                            rw [isDir_setE q1 q2]; exact HMV.out.2.2.2.2.1
                          have hn9 : (setE M1 f (updE (entN M1 f) (parL old) none) n).isSome = true := by
                            obtain ⟨_, _, q1, q2⟩ := isDir_there (ent_dir HMV.out.2.2.1)
                            rw [some_setE q1]; exact HMV.out.1.1.ok.ent _ _ _ HMV.out.2.2.1
                          obtain ⟨bp2, ep, ndp, hbp2, hnp, hep, w10, hput, h10, hf10⟩ := move_put (en := parL s) H9.out hd9 hn9 HPNC.out
                          obtain rfl : bp2 = bp := Option.some.inj (hbp2.symm.trans HPPC.out)
                          have y0 := cell_blk_some OX9.out (i := 0) rfl
                          have n1 := cell_blk_some hnp (i := 1) rfl
                          have H10 := Lib.hid h10; have HF10 := Lib.hid hf10; have HEPE := Lib.hid hep
                          clear hd9 hn9 hbp2 hnp hep h10 hf10 x0 x1 m1
                          go_wp2_with fail
                          go_ret
                          rw [HRES.out]
                          refine ⟨rfl, ⟨_, _, _, _, H10.out, fun x hx => .inl (HFT.out x (HFC.out x hx))⟩, ?_⟩
                          exact (((HFRC.out.trans (Fr.below HBE.out)).trans (HF9.out.tell fun x hx => HFT.out x (HFC.out x (.inr (.inr (.inr (.inl ⟨f, by rw [hx]; exact HEFE.out⟩))))))).trans (HF10.out.tell fun x hx => HFT.out x (HFC.out x (.inr (.inr (.inr (.inl ⟨p, by rw [hx]; exact HEPE.out⟩)))))))
                    · have HRES : Hid (renameN M old s = (wrongN M t true, M)) := Lib.hid (by rw [HLN2.out, if_pos hw])
                      have HLT := Lib.hid (TLeft.same HT.out HFT.out HBB.out)
                      have hc2 : (wrongN M t true != 0) = true := by simp [hw]
                      generalize wrongN M t true = cw at *
                      clear hw HLN2
                      go_wp2_with fail
                      refine HA.out.mono ?_
                      rintro e wx ⟨rfl, rfl⟩
                      clear HA
                      go_wp2_with fail
                      go_ret
                      rw [HRES.out]
                      exact ⟨rfl, HLT.out⟩
    · have HRES : Hid (renameN M old s = (parE s, M)) := Lib.hid (by unfold renameN; rw [if_neg (by rw [HE.out]; simp), if_pos hPE])
      have hc2 : (parE s != 0) = true := by simp [hPE]
      generalize parE s = c at *
      clear hPE
      go_wp2_with fail
      refine HP2.out.mono ?_
      rintro e w2 ⟨v2, rfl, -, hb2, -⟩
      have HLT := Lib.hid (TLeft.same HT.out HFT.out (below_call HB1.out hb2 (Nat.le_refl _)))
      clear hb2 HP2
      go_wp2_with fail
      go_ret
      rw [HRES.out]
      exact ⟨rfl, HLT.out⟩
  · have HRES : Hid (renameN M old s = (parE old, M)) := Lib.hid (by unfold renameN; rw [if_pos hE])
    have hc2 : (parE old != 0) = true := by simp [hE]
    generalize parE old = c at *
    clear hE
    go_enter Tryz.func131, Tryz.ntmps131
    go_wp2_with fail
    refine HP1.out.mono ?_
    rintro e w1 ⟨v, rfl, -, hb1, -⟩
    have HLT := Lib.hid (TLeft.same HT.out HFT.out hb1)
    clear hb1 HP1
    go_wp2_with fail
    go_ret
    rw [HRES.out]
    exact ⟨rfl, HLT.out⟩
end
end Go.Proofs.YtoofcnehoffllaaGreat
