/- 'append(b, make([]T, k)...)' onto a slice that is nil or the call's own, elements of one cell: whatever the program. -/
/- Walks of gone, Unlink, Rmdir. -/
/- Walks of Unlink, Rmdir, Create, Mkdir, Link. -/
/- Walks of slices.Clone of bytes, of grow. -/
/- Walks of Write, Truncate. -/
/- Walks of Truncate, Read, Stat. -/
/- Walks of Read, Stat. -/
import Derived.Test.YtoofcnehoffllaaGreatBase
import Derived.Lib.AppendStr
import Derived.Lib.AppendZerosOnto
import Derived.Test.YtoofcnehoffllaaGreatT15
namespace Go.Proofs.YtoofcnehoffllaaGreat
open Go.RowKit

theorem zeroCells_one (z : Value) (k : Nat) : Builtin.zeroCells #[z] k = (List.replicate k z).toArray := by
  apply Array.ext
  · simp [Builtin.zeroCells]
  · intro i h1 h2
    simp [Builtin.zeroCells, Nat.mod_one]

section
variable {P : Program} (w : World)
theorem run_append_own_zeros (base : Nat) (t tn ty e : TypeId) (i : TypeInfo) (z : Value) (bytes : Nat) (kq kn : IntKind) (ht : P.underlying t = some (.slice e)) (htn : P.underlying tn = some (.int kn)) (hi : P.info? e = some i) (hz : i.zero = some z)
    (hzc : z.cells = #[z]) (h1 : z.oneCell' = true) (hsize : i.size = 1) (hby : i.bytes = bytes)
    (v : Value) (n : Nat) (xs : List Value) (hown : w.ownsRow base e 1 v n xs) (k : Nat)
    (h63 : n + k ≤ maxLen) (hbytes : (n + k) * bytes ≤ 140737488355328) (hb1 : k * bytes ≤ 140737488355328) (hbase : base ≤ w.heap.size) :
    ∃ v' w', (Builtin.append_ #[t, tn] ty #[v, .int kq k]).run P w = .ok v' w' ∧ w'.ownsRow base e 1 v' (n + k) (xs ++ List.replicate k z) ∧ w.grownBy w' v.ownBlock := by
  have hsmall : n + k ≤ 9223372036854775807 := by simp only [maxLen] at h63; omega
  have hxl : xs.length = n := by simpa using hown.1
  have hlen : (xs ++ List.replicate k z).length = (n + k) * 1 := by rw [List.length_append, hxl, List.length_replicate, Nat.mul_one]
  have hw : IntKind.i64.wrap (k : Int) = k := by rw [IntKind.wrap_i64]; omega
  have h48i : ¬ (281474976710656 < (k : Int) * (bytes : Int)) := by rw [← Int.natCast_mul]; omega
  have hneg : ¬ ((k : Int) < 0) := by omega
  by_cases hk : k = 0
  · subst hk
    have hw0 : IntKind.i64.wrap 0 = 0 := by decide
    refine ⟨v, w, ?_, by simpa using hown, ⟨rfl, rfl, rfl, Nat.le_refl _, fun _ _ _ => rfl⟩⟩
    rcases hown.2 with ⟨rfl, rfl⟩ | ⟨g, cap, cur, rfl, hbg, hg, hnc, hcm, hcs, htake⟩
    · simp [Builtin.append_, run_underlying ht, run_underlying htn, sizeOf, typeInfo, hi, asInt, asIntOf, hw0, hby]
    · simp [Builtin.append_, run_underlying ht, run_underlying htn, sizeOf, typeInfo, hi, asInt, asIntOf, hw0, hby, hnc, storeCells]
  · have grows : ∀ (ao : Option Addr) (old : Nat), old < n + k → (Builtin.firstCells i.size n (.slice ao n old)).run P w.drew = .ok xs.toArray w.drew → ∀ row : Option Nat,
        ∃ v' w', (Builtin.append_ #[t, tn] ty #[.slice ao n old, .int kq k]).run P w = .ok v' w' ∧ w'.ownsRow base e 1 v' (n + k) (xs ++ List.replicate k z) ∧ w.grownBy w' row := by
      intro ao old ho hf row
      have hr := Lib.run_append_grow_zeros (P := P) w t tn ty e i z kq kn ht htn hi hz ao n old xs hf k (by omega) (by omega) ho (by omega) (by rw [hby]; omega) (by
        rw [hby]
        exact growslice_fits (by omega) (by omega))
      have hge := grownCap_ge w (n + k) old e
      have hcm : grownCap w (n + k) old e ≤ maxLen := grownCap_le_maxLen w (n + k) old e h63
      refine ⟨_, _, hr, ⟨hlen, .inr ⟨w.heap.size, _, _, rfl, hbase, heap_alloc_new w.drew _, hge, hcm, ?_, ?_⟩⟩, ⟨rfl, rfl, rfl, by simp, fun k hk _ => Below.heap_alloc w.drew _ k hk⟩⟩
      · rw [hzc]
        simp only [Array.size_append, List.size_toArray, zeroCells_one, hxl, List.length_replicate]
        omega
      · rw [hzc]
        simp only [Array.toList_append, zeroCells_one]
        rw [← hlen]
        exact List.take_left
    rcases hown.2 with ⟨rfl, rfl⟩ | ⟨g, cap, cur, rfl, hbg, hg, hnc, hcm, hcs, htake⟩
    · have hx : xs = [] := List.eq_nil_of_length_eq_zero hxl
      subst hx
      exact grows none 0 (by omega) (by simp [Builtin.firstCells]) _
    · by_cases hroom : n + k ≤ cap
      · have hcs' : cur.size = cap := by simpa using hcs
        have hst := run_storeCells_at P g n e (List.replicate k z) 0 cur w hg (by simp; omega) (fun u hu => by rw [List.eq_of_mem_replicate hu]; exact h1)
        simp only [Nat.add_zero, List.length_replicate] at hst
        have hr : (Builtin.append_ #[t, tn] ty #[.slice (some ⟨g, 0, none⟩) n cap, .int kq k]).run P w =
            .ok (.slice (some ⟨g, 0, none⟩) (n + k) cap) (w.setRow g (cur.toList.take n ++ List.replicate k z ++ cur.toList.drop (n + k)).toArray) := by
          simp [Builtin.append_, run_underlying ht, run_underlying htn, sizeOf, typeInfo, zeroValue, hi, hz, hsize, asInt, asIntOf, hw, hneg, hby, h48i, hroom, hk, hzc, zeroCells_one, Addr.add_lit, hst]
        refine ⟨_, _, hr, ⟨hlen, .inr ⟨g, cap, _, rfl, hbg, setRow_heap w g cur _ e _ hg, hroom, hcm, ?_, ?_⟩⟩, ⟨rfl, rfl, rfl, by simp, fun k _ hk => setRow_other w g k _ (fun e => hk (by simp [Value.ownBlock, e]))⟩⟩
        · simp only [List.size_toArray, List.length_append, List.length_take, List.length_drop, Array.length_toList, List.length_replicate]
          omega
        · have ht' : cur.toList.take n = xs := by simpa using htake
          rw [ht', ← hlen]
          exact List.take_left
      · have holds : ∀ j u, xs[j]? = some u → w.cell? ((⟨g, 0, none⟩ : Addr).add j) = some u := hown.cells (g := g) rfl
        exact grows (some ⟨g, 0, none⟩) cap (by omega) (run_firstCells_some (P := P) w.drew i.size n _ n cap xs (by rw [hsize]; simpa using hxl) (by simpa using holds)) _

theorem wpList_append_own_zeros {ops : Array Oper} {rest : List Oper} {o : Oper} {a : Act} {Q : Exit → Act → World → Prop} (hgd : o.guard = none) (sl x : Operand) (t tn : TypeId)
    (ho : o.op = .call { callee := .builtin .append, args := #[sl, x], argTypes := #[t, tn] })
    (base : Nat) (e : TypeId) (i : TypeInfo) (z : Value) (bytes : Nat) (kq kn : IntKind) (ht : P.underlying t = some (.slice e)) (htn : P.underlying tn = some (.int kn)) (hi : P.info? e = some i) (hz : i.zero = some z)
    (hzc : z.cells = #[z]) (h1 : z.oneCell' = true) (hsize : i.size = 1) (hby : i.bytes = bytes)
    (v : Value) (n : Nat) (xs : List Value) (hs : a.eval sl = v) (hown : w.ownsRow base e 1 v n xs) (k : Nat) (c : Int) (hx : a.eval x = .int kq c) (hc : c = k)
    (h63 : n + k ≤ maxLen) (hbytes : (n + k) * bytes ≤ 140737488355328) (hb1 : k * bytes ≤ 140737488355328) (hbase : base ≤ w.heap.size)
    (h : ∀ v' w', w'.ownsRow base e 1 v' (n + k) (xs ++ List.replicate k z) → w.grownBy w' v.ownBlock → wpList P ops Q rest (a.put o.dst v') w') : wpList P ops Q (o :: rest) a w := by
  refine wpList_plain hgd fun K hK => ?_
  subst hc
  obtain ⟨v', w', hr, h2, h3⟩ := run_append_own_zeros (P := P) w base t tn o.type e i z bytes kq kn ht htn hi hz hzc h1 hsize hby v n xs hown k h63 hbytes hb1 hbase
  unfold Oper.wp execOp
  simp only [ho, resolve, invoke, builtin, Sem.run_bind, Sem.run_pure, Result.andThen_ok, List.map_toArray, List.map_cons, List.map_nil, hs, hx, hr]
  exact hK _ _ (h v' w' h2 h3)
end
end Go.Proofs.YtoofcnehoffllaaGreat

namespace Go.Proofs.YtoofcnehoffllaaGreat
open Go.RowKit

/-- What gone answers, and what the tree is then. -/
noncomputable def goneN (M : TM) (s : ByteArray) (dir : Bool) : Int × TM :=
  if parE s ≠ 0 then (parE s, M) else match lookN M s with
    | .inr c => (c, M)
    | .inl i => if wrongN M i dir ≠ 0 then (wrongN M i dir, M) else match leadN M 2 (parN s) with
      | .inr _ => (0, M)
      | .inl p => (0, dropT M p (parL s) i)
theorem par_split {s : ByteArray} (h : parE s = 0) : splitE s = 0 ∧ splitN s = parN s ++ [parL s] := by
  unfold parE at h
  split at h
  · rename_i h0
    split at h
    · cases h
    · rename_i hne
      have hp : parE s = 0 := by unfold parE; rw [if_pos h0, if_neg hne]
      refine ⟨h0, ?_⟩
      unfold parN parL
      rw [if_pos hp, if_pos hp]
      have hl : 0 < (splitN s).length := List.length_pos_iff.2 hne
      have hg : (splitN s).getD ((splitN s).length - 1) ⟨#[]⟩ = (splitN s)[(splitN s).length - 1]'(by omega) := by
        rw [List.getD_eq_getElem?_getD, List.getElem?_eq_getElem (by omega)]; rfl
      rw [hg, List.take_append_getElem (by omega), List.take_of_length_le (by omega)]
  · rename_i h0; exact absurd h h0
section
variable {w : World} {tb nb cap : Nat} {P E : Nat → Option Nat} {V : Nat → Value} {M : TM}
theorem look_par {s : ByteArray} {i : Nat} (hp : parE s = 0) (hl : lookN M s = .inl i) : ∃ p, leadN M 2 (parN s) = .inl p ∧ entN M p (parL s) = some i := by
  obtain ⟨h0, hs⟩ := par_split hp
  unfold lookN at hl
  rw [if_neg (by rw [h0]; simp)] at hl
  cases hq : leadN M 2 (splitN s) with
  | inr c => rw [hq] at hl; cases hl
  | inl j =>
    rw [hq] at hl
    have hl : (if splitD s && !isDir M j then (.inr 20 : Nat ⊕ Int) else .inl j) = .inl i := hl
    split at hl
    · cases hl
    · injection hl with hl
      subst hl
      rw [hs] at hq
      obtain ⟨p, h1, h2⟩ := goE_snoc.1 ((lead_goE _ _ _).1 hq)
      exact ⟨p, (lead_goE _ _ _).2 h1, h2⟩
theorem wrong_none {i : Nat} {dir : Bool} (h : wrongN M i dir = 0) : ∀ t, entN M i t = none := by
  intro t
  cases hd : isDir M i with
  | false =>
    cases hq : entN M i t with
    | none => rfl
    | some j => have := ent_dir hq; rw [hd] at this; cases this
  | true =>
    unfold wrongN at h
    cases dir with
    | false => rw [if_neg (by simp), hd] at h; simp at h
    | true =>
      rw [if_pos rfl, hd, if_pos rfl] at h
      cases hh : hasN M i with
      | true => rw [hh] at h; simp at h
      | false =>
        unfold hasN at hh
        cases hq : entN M i t with
        | none => rfl
        | some j => simp at hh; exact absurd hq (hh t j)
theorem place_good {s : ByteArray} {p : Nat} (hp : parE s = 0) (hl : leadN M 2 (parN s) = .inl p) (hd : isDir M p = true) : placeV P M s = .tuple #[placeA (nptr (P p)) (parL s) (splitD s) (longN (parN s ++ [parL s])), .int .i64 0] := by
  unfold placeV
  rw [if_neg (by rw [hp]; simp), hl]
  show Value.tuple #[_, .int .i64 (if isDir M p then 0 else 20)] = _
  rw [hd]; rfl
theorem TLeft.from {F : Nat → Prop} {w5 w' : World} (h : TLeft w5 w' tb cap F M) (hb : Below w.heap.size w w5) : TLeft w w' tb cap F M := by
  obtain ⟨⟨nb, P, E, V, hT, hF⟩, hfr⟩ := h
  exact ⟨⟨nb, P, E, V, hT, fun b hb' => (hF b hb').imp id fun h => Nat.le_trans hb.size h⟩, (Fr.below hb).trans hfr⟩
/-- What a node that shall be gone is asked: as a file, or as a directory. -/
def askF (dir : Bool) : FuncId := if dir then 47 else 46
theorem ask_any (h : TIn w tb nb cap P E V M) {i : Nat} (hi : (M i).isSome = true) (dir : Bool) :
    Calls Tryz.prog (askF dir) #[nptr (P i)] w fun e w' => e = .returned (.int .i64 (wrongN M i dir)) ∧ w' = w := by
  cases dir
  · exact notFile_any h hi
  · exact notEmpty_any h hi
theorem ask_enters (dir : Bool) : ∀ args w, (callFunc (askF dir) args).run Tryz.prog w = .ok (.enter (askF dir) args) w := by
  cases dir
  · exact enters_of Tryz.func46 (by kernel_rfl) rfl
  · exact enters_of Tryz.func47 (by kernel_rfl) rfl
set_option maxHeartbeats 2000000 in
set_option maxRecDepth 100000 in
theorem gone_any {F : Nat → Prop} (hAt : TAt w tb cap F M) (hG : TG M cap) (s : ByteArray) (hs : s.size ≤ 1000000) (dir : Bool) :
    Calls Tryz.prog 45 #[.pointer (some ⟨tb, 0, none⟩), .string s, .func (.func (askF dir)) #[] #[]] w fun e w' => e = .returned (.int .i64 (goneN M s dir).1) ∧ TLeft w w' tb cap F (goneN M s dir).2 := by
  obtain ⟨nb, P, E, V, h, hFt⟩ := hAt
  have HFT := Lib.hid hFt; have HT := Lib.hid h; have HG := Lib.hid hG; have HSZ := Lib.hid hs
  have HP := Lib.hid (parent_any s hs w)
  clear hFt h hG hs
  by_cases hE : parE s = 0
  · have HE := Lib.hid hE
    unfold ParPost at HP
    rw [hE] at HP
    clear hE
    go_enter Tryz.func45, Tryz.ntmps45
    go_wp2_with fail
    refine HP.out.mono ?_
    rintro e w1 ⟨v, rfl, -, hb1, -⟩
    have HB1 := Lib.hid hb1
    have HL := Lib.hid (look_any (HT.out.below hb1) s HSZ.out)
    clear hb1 HP
    go_wp2_with fail
    refine HL.out.mono ?_
    rintro e w2 ⟨rfl, hb2⟩
    have HB2 := Lib.hid (below_call HB1.out hb2 (Nat.le_refl _))
    have H2 := Lib.hid (HT.out.below HB2.out)
    clear hb2 HL
    cases hq : lookN M s with
    | inr c =>
      have hc := look_code hq
      have HRES : Hid (goneN M s dir = (c, M)) := Lib.hid (by unfold goneN; rw [if_neg (by rw [HE.out]; simp), hq])
      have hc2 : (c != 0) = true := by simp [hc]
      have HLT := Lib.hid (TLeft.same HT.out HFT.out HB2.out)
      clear hq hc
      unfold leadV
      go_wp2_with fail
      go_ret
      rw [HRES.out]
      exact ⟨rfl, HLT.out⟩
    | inl i =>
      have hi := look_isin HT.out hq
      have HA := Lib.hid (ask_any H2.out hi dir)
      have HQ := Lib.hid hq
      obtain ⟨ndi, hmi⟩ := Option.isSome_iff_exists.1 hi
      obtain ⟨bi, hpi, _⟩ := H2.out.at_ hmi
      have HMI := Lib.hid hmi
      have HLV : Hid (leadV P (.inl i) = .tuple #[.pointer (some ⟨bi, 0, none⟩), .int .i64 0]) := Lib.hid (by show Value.tuple #[nptr (P i), _] = _; rw [hpi]; rfl)
      rw [hpi] at HA
      rw [HLV.out]
      unfold nptr at HA
      clear hq hi hmi hpi HLV
      have hent := ask_enters dir
      generalize askF dir = fid at *
      by_cases hw : wrongN M i dir = 0
      · have HW := Lib.hid hw
        rw [hw] at HA
        obtain ⟨p, hlp, hep⟩ := look_par HE.out HQ.out
        have HLP := Lib.hid hlp; have HEP := Lib.hid hep
        have HP2 := Lib.hid (place_any H2.out s HSZ.out)
        have HRES : Hid (goneN M s dir = (0, dropT M p (parL s) i)) := Lib.hid (by
          unfold goneN
          rw [if_neg (by rw [HE.out]; simp), HQ.out]
          show (if wrongN M i dir ≠ 0 then _ else match leadN M 2 (parN s) with | .inr _ => _ | .inl p => _) = _
          rw [if_neg (by rw [hw]; simp), hlp])
        obtain ⟨nq, f, hmq, hfq⟩ := isDir_there (ent_dir hep)
        obtain ⟨bp, hbp, _⟩ := H2.out.at_ hmq
        have hpv := place_good (P := P) HE.out hlp (ent_dir hep)
        rw [hbp] at hpv
        have hef := ent_fun hmq hfq
        rw [hpv] at HP2
        have HMQ := Lib.hid hmq; have HFQ := Lib.hid hfq; have HBP := Lib.hid hbp; have HEF := Lib.hid hef
        clear hw hlp hep hmq hfq hbp hpv hef
        unfold nptr placeA at HP2
        go_wp2_with fail
        refine HA.out.mono ?_
        rintro e w3 ⟨rfl, rfl⟩
        clear HA hent
        go_wp2_with fail
        refine HP2.out.mono ?_
        rintro e w4 ⟨rfl, hb4⟩
        have HBA := Lib.hid (below_call (below_call HB2.out hb4 (Nat.le_refl _)) (show Below w4.heap.size w4 (w4.alloc (.cells #[.pointer (some ⟨bp, 0, none⟩), .string (parL s), .bool (splitD s), .int .i64 (longN (parN s ++ [parL s]))] 102)) from (Below.refl _ w4).alloc (Nat.le_refl _) _) (Nat.le_refl _))
        have hip : i ≠ p := fun e => by have := wrong_none HW.out (parL s); rw [e, HEP.out] at this; cases this
        have hi2 : i ≠ 2 := fun e => HG.out.noroot p (parL s) (by rw [HEP.out, e])
        have hlk := HG.out.lk i (HG.out.ok.ent p (parL s) i HEP.out)
        rw [lkN_of HMI.out] at hlk
        have HDR := Lib.hid (drop_any (ob := splitD s) (n := longN (parN s ++ [parL s])) (HT.out.below HBA.out) HFT.out HMQ.out HFQ.out HBP.out (s := parL s) (i := i) (by rw [← HEF.out]; exact HEP.out) HMI.out hip hi2 ⟨hlk.1, hlk.2.1⟩ (fun h1 r t _ ht => HG.out.one (by rw [lkN_of HMI.out]; exact h1) HEP.out ht))
        have HDT : Hid (dropT M p (parL s) i = dropM M p f (parL s) i ndi) := Lib.hid (by unfold dropT; rw [HMI.out]; show dropM M p (entN M p) _ i ndi = _; rw [HEF.out])
        clear hip hi2 hlk hb4 HP2
        unfold placeA at HDR
        go_wp2_with fail
        refine HDR.out.mono ?_
        rintro e w5 ⟨rfl, hl5⟩
        have HL5 := Lib.hid (hl5.from HBA.out)
        clear hl5
        go_wp2_with fail
        go_ret
        rw [HRES.out]
        exact ⟨rfl, by rw [HDT.out]; exact HL5.out⟩
      · have HRES : Hid (goneN M s dir = (wrongN M i dir, M)) := Lib.hid (by
          unfold goneN
          rw [if_neg (by rw [HE.out]; simp), HQ.out]
          show (if wrongN M i dir ≠ 0 then _ else _) = _
          rw [if_pos hw])
        have HLT := Lib.hid (TLeft.same HT.out HFT.out HB2.out)
        have hc2 : (wrongN M i dir != 0) = true := by simp [hw]
        generalize wrongN M i dir = c at *
        clear hw
        go_wp2_with fail
        refine HA.out.mono ?_
        rintro e w3 ⟨rfl, rfl⟩
        go_wp2_with fail
        go_ret
        rw [HRES.out]
        exact ⟨rfl, HLT.out⟩
  · have HRES : Hid (goneN M s dir = (parE s, M)) := Lib.hid (by unfold goneN; rw [if_pos hE])
    have hc2 : (parE s != 0) = true := by simp [hE]
    unfold ParPost at HP
    generalize parE s = c at *
    clear hE
    go_enter Tryz.func45, Tryz.ntmps45
    go_wp2_with fail
    refine HP.out.mono ?_
    rintro e w1 ⟨v, rfl, -, hb1, -⟩
    have HLT := Lib.hid (TLeft.same HT.out HFT.out hb1)
    clear hb1 HP
    go_wp2_with fail
    go_ret
    rw [HRES.out]
    exact ⟨rfl, HLT.out⟩
end
end Go.Proofs.YtoofcnehoffllaaGreat

namespace Go.Proofs.YtoofcnehoffllaaGreat
open Go.RowKit

section
variable {w : World} {tb nb cap : Nat} {P E : Nat → Option Nat} {V : Nat → Value} {M : TM}
theorem unlink_any {F : Nat → Prop} (hAt : TAt w tb cap F M) (hG : TG M cap) (s : ByteArray) (hs : s.size ≤ 1000000) :
    Calls Tryz.prog 22 #[.pointer (some ⟨tb, 0, none⟩), .string s] w fun e w' => e = .returned (.int .i64 (goneN M s false).1) ∧ TLeft w w' tb cap F (goneN M s false).2 := by
  have HK := Lib.hid (gone_any hAt hG s hs false)
  unfold askF at HK
  rw [if_neg (by decide)] at HK
  clear hAt hG hs
  generalize goneN M s false = r at *
  go_enter Tryz.func22, Tryz.ntmps22
  go_wp2_with fail
  refine HK.out.mono ?_
  rintro e w1 ⟨rfl, hl⟩
  have HL := Lib.hid hl
  clear hl
  go_wp2_with fail
  go_ret
  exact ⟨rfl, HL.out⟩
theorem rmdir_any {F : Nat → Prop} (hAt : TAt w tb cap F M) (hG : TG M cap) (s : ByteArray) (hs : s.size ≤ 1000000) :
    Calls Tryz.prog 23 #[.pointer (some ⟨tb, 0, none⟩), .string s] w fun e w' => e = .returned (.int .i64 (goneN M s true).1) ∧ TLeft w w' tb cap F (goneN M s true).2 := by
  have HK := Lib.hid (gone_any hAt hG s hs true)
  unfold askF at HK
  rw [if_pos rfl] at HK
  clear hAt hG hs
  generalize goneN M s true = r at *
  go_enter Tryz.func23, Tryz.ntmps23
  go_wp2_with fail
  refine HK.out.mono ?_
  rintro e w1 ⟨rfl, hl⟩
  have HL := Lib.hid hl
  clear hl
  go_wp2_with fail
  go_ret
  exact ⟨rfl, HL.out⟩
theorem create_any {F : Nat → Prop} (hAt : TAt w tb cap F M) (s : ByteArray) (hs : s.size ≤ 1000000) :
    Calls Tryz.prog 20 #[.pointer (some ⟨tb, 0, none⟩), .string s] w fun e w' => e = .returned (.tuple #[.int .i64 (makeN M cap s false).1, .int .i64 (makeN M cap s false).2.1]) ∧ TLeft w w' tb cap F (makeN M cap s false).2.2 := by
  have HK := Lib.hid (make_any hAt s hs false)
  clear hAt hs
  generalize makeN M cap s false = r at *
  go_enter Tryz.func20, Tryz.ntmps20
  go_wp2_with fail
  refine HK.out.mono ?_
  rintro e w1 ⟨rfl, hl⟩
  have HL := Lib.hid hl
  clear hl
  go_wp2_with fail
  go_ret2
  exact ⟨rfl, HL.out⟩
theorem mkdir_any {F : Nat → Prop} (hAt : TAt w tb cap F M) (s : ByteArray) (hs : s.size ≤ 1000000) :
    Calls Tryz.prog 19 #[.pointer (some ⟨tb, 0, none⟩), .string s] w fun e w' => e = .returned (.tuple #[.int .i64 (makeN M cap s true).1, .int .i64 (makeN M cap s true).2.1]) ∧ TLeft w w' tb cap F (makeN M cap s true).2.2 := by
  have HK := Lib.hid (make_any hAt s hs true)
  clear hAt hs
  generalize makeN M cap s true = r at *
  go_enter Tryz.func19, Tryz.ntmps19
  go_wp2_with fail
  refine HK.out.mono ?_
  rintro e w1 ⟨rfl, hl⟩
  have HL := Lib.hid hl
  clear hl
  go_wp2_with fail
  go_ret2
  exact ⟨rfl, HL.out⟩
end
/-- What Link answers, and what the tree is then. -/
def linkN (M : TM) (old s : ByteArray) : Int × TM :=
  if splitE old ≠ 0 then (splitE old, M) else if parE s ≠ 0 then (parE s, M) else match lookN M old with
    | .inr c => (c, M)
    | .inl i => if isDir M i then (1, M) else if freshC M s false ≠ 0 then (freshC M s false, M) else if lkN M i = 100 then (31, M) else match leadN M 2 (parN s) with
      | .inr _ => (0, M)
      | .inl p => (0, linkM M p (parL s) i)
section
variable {w w' : World} {tb nb cap : Nat} {P E : Nat → Option Nat} {V : Nat → Value} {M : TM}
theorem entF_set {f : ByteArray → Option Nat} {i : Nat} {s : ByteArray} : entF P (updE f s (some i)) = putK (entF P f) s (nptr (P i)) := by
  funext x
  by_cases e : x = s
  · subst e
    rw [putK_self]
    unfold entF updE
    rw [if_pos rfl]; rfl
  · rw [putK_other e]
    unfold entF updE
    rw [if_neg e]
/-- A place that is fresh: its parent. -/
theorem fresh_good {s : ByteArray} {dir : Bool} (h : TIn w tb nb cap P E V M) (hc : freshC M s dir = 0) : placeC M s = 0 ∧ parE s = 0 ∧ ∃ p bp eb nd f, leadN M 2 (parN s) = .inl p ∧ M p = some nd ∧ nd.ents = some f ∧ isDir M p = true ∧ P p = some bp ∧ E p = some eb ∧ entN M p (parL s) = none ∧ placeV P M s = .tuple #[placeA (.pointer (some ⟨bp, 0, none⟩)) (parL s) (splitD s) (longN (parN s ++ [parL s])), .int .i64 0] := by
  have hpc : placeC M s = 0 := by
    unfold freshC at hc
    by_cases q : placeC M s = 0
    · exact q
    · rw [if_pos q] at hc; exact hc
  have hpe : parE s = 0 := by
    unfold placeC at hpc
    by_cases q : parE s = 0
    · exact q
    · rw [if_pos q] at hpc; exact hpc
  refine ⟨hpc, hpe, ?_⟩
  rcases place_ways h s with ⟨q, _⟩ | ⟨_, p, bp, eb, nd, hl, hm, hd, hp, he, hv⟩
  · exact absurd hpc q
  · have hdd : isDir M p = true := by rw [isDir_of hm]; exact hd
    unfold Nd.dir at hd
    obtain ⟨f, hf⟩ := Option.isSome_iff_exists.1 hd
    refine ⟨p, bp, eb, nd, f, hl, hm, hf, hdd, hp, he, ?_, hv⟩
    unfold freshC at hc
    rw [if_neg (by rw [hpc]; simp), hl] at hc
    have hc : (if (entN M p (parL s)).isSome then (17 : Int) else if splitD s && !dir then 21 else if dir && decide (255 ≤ longN (parN s ++ [parL s])) then 36 else 0) = 0 := hc
    cases hq : entN M p (parL s) with
    | none => rfl
    | some j => rw [hq] at hc; simp at hc
set_option maxHeartbeats 4000000 in
set_option maxRecDepth 100000 in
theorem link_any {F : Nat → Prop} (hAt : TAt w tb cap F M) (hG : TG M cap) (old s : ByteArray) (ho : old.size ≤ 1000000) (hs : s.size ≤ 1000000) :
    Calls Tryz.prog 21 #[.pointer (some ⟨tb, 0, none⟩), .string old, .string s] w fun e w' => e = .returned (.int .i64 (linkN M old s).1) ∧ TLeft w w' tb cap F (linkN M old s).2 := by
  obtain ⟨nb, P, E, V, h, hFt⟩ := hAt
  have HFT := Lib.hid hFt; have HT := Lib.hid h; have HG := Lib.hid hG; have HSZ := Lib.hid hs; have HOZ := Lib.hid ho
  have HS := Lib.hid (split_any old ho w)
  have HLN : Hid (linkN M old s = if splitE old ≠ 0 then (splitE old, M) else if parE s ≠ 0 then (parE s, M) else match lookN M old with
    | .inr c => (c, M)
    | .inl i => if isDir M i then (1, M) else if freshC M s false ≠ 0 then (freshC M s false, M) else if lkN M i = 100 then (31, M) else match leadN M 2 (parN s) with
      | .inr _ => (0, M)
      | .inl p => (0, linkM M p (parL s) i)) := Lib.hid rfl
  clear hFt h hG hs ho
  unfold SplitPost at HS
  by_cases hE : splitE old = 0
  · have HE := Lib.hid hE
    rw [hE] at HS
    clear hE
    go_enter Tryz.func21, Tryz.ntmps21
    go_wp2_with fail
    refine HS.out.mono ?_
    rintro e w1 ⟨v, rfl, -, hb1⟩
    have HB1 := Lib.hid hb1
    have HP := Lib.hid (parent_any s HSZ.out w1)
    unfold ParPost at HP
    clear hb1 HS
    by_cases hPE : parE s = 0
    · have HPE := Lib.hid hPE
      rw [hPE] at HP
      clear hPE
      go_wp2_with fail
      refine HP.out.mono ?_
      rintro e w2 ⟨v2, rfl, -, hb2, -⟩
      have HB2 := Lib.hid (below_call HB1.out hb2 (Nat.le_refl _))
      have HL := Lib.hid (look_any (HT.out.below HB2.out) old HOZ.out)
      clear hb2 HP HB1
      go_wp2_with fail
      refine HL.out.mono ?_
      rintro e w3 ⟨rfl, hb3⟩
      have HB3 := Lib.hid (below_call HB2.out hb3 (Nat.le_refl _))
      have H3 := Lib.hid (HT.out.below HB3.out)
      clear hb3 HL HB2
      cases hq : lookN M old with
      | inr c =>
        have hc := look_code hq
        have HRES : Hid (linkN M old s = (c, M)) := Lib.hid (by rw [HLN.out, if_neg (by rw [HE.out]; simp), if_neg (by rw [HPE.out]; simp), hq])
        have hc2 : (c != 0) = true := by simp [hc]
        have HLT := Lib.hid (TLeft.same HT.out HFT.out HB3.out)
        clear hq hc HLN
        unfold leadV
        go_wp2_with fail
        go_ret
        rw [HRES.out]
        exact ⟨rfl, HLT.out⟩
      | inl i =>
        have hi := look_isin HT.out hq
        have hln : linkN M old s = if isDir M i then (1, M) else if freshC M s false ≠ 0 then (freshC M s false, M) else if lkN M i = 100 then (31, M) else match leadN M 2 (parN s) with
          | .inr _ => (0, M)
          | .inl p => (0, linkM M p (parL s) i) := by rw [HLN.out, if_neg (by rw [HE.out]; simp), if_neg (by rw [HPE.out]; simp), hq]
        have HLN2 := Lib.hid hln
        have HD := Lib.hid (dir_any H3.out hi)
        obtain ⟨ndi, hmi⟩ := Option.isSome_iff_exists.1 hi
        obtain ⟨bi, hpi, _⟩ := H3.out.at_ hmi
        have HLV : Hid (leadV P (.inl i) = .tuple #[.pointer (some ⟨bi, 0, none⟩), .int .i64 0]) := Lib.hid (by show Value.tuple #[nptr (P i), _] = _; rw [hpi]; rfl)
        have HPI := Lib.hid hpi; have HMI := Lib.hid hmi
        rw [hpi] at HD
        rw [HLV.out]
        unfold nptr at HD
        clear hq hi hmi hpi HLV HLN hln
        cases hdi : isDir M i with
        | true =>
          have HRES : Hid (linkN M old s = (1, M)) := Lib.hid (by rw [HLN2.out, hdi]; rfl)
          have HLT := Lib.hid (TLeft.same HT.out HFT.out HB3.out)
          rw [hdi] at HD
          clear HLN2 hdi
          go_wp2_with fail
          refine HD.out.mono ?_
          rintro e w4 ⟨rfl, rfl⟩
          go_wp2_with fail
          go_ret
          rw [HRES.out]
          exact ⟨rfl, HLT.out⟩
        | false =>
          have HLN3 : Hid (linkN M old s = if freshC M s false ≠ 0 then (freshC M s false, M) else if lkN M i = 100 then (31, M) else match leadN M 2 (parN s) with
            | .inr _ => (0, M)
            | .inl p => (0, linkM M p (parL s) i)) := Lib.hid (by rw [HLN2.out, hdi]; rfl)
          have HDI := Lib.hid hdi
          have HF := Lib.hid (fresh_any H3.out s HSZ.out false)
          rw [hdi] at HD
          clear HLN2 hdi
          go_wp2_with fail
          refine HD.out.mono ?_
          rintro e w4 ⟨rfl, rfl⟩
          clear HD
          by_cases hc : freshC M s false = 0
          · obtain ⟨hpc, _, p, bp, eb, nd, f, hl, hm, hf, hd, hp, he, hn, hv⟩ := fresh_good H3.out hc
            have HPC := Lib.hid hpc
            have HV := Lib.hid hv
            have HPP := Lib.hid hp; have HEE := Lib.hid he; have HM := Lib.hid hm; have HDD := Lib.hid hd; have HFF := Lib.hid hf; have HN := Lib.hid hn; have HLD := Lib.hid hl
            have HLN4 : Hid (linkN M old s = if lkN M i = 100 then (31, M) else (0, linkM M p (parL s) i)) := Lib.hid (by rw [HLN3.out, if_neg (by rw [hc]; simp), hl])
            rw [hc] at HF
            clear hc hpc hl hm hf hd hp he hn hv HLN3
            go_wp2_with fail
            refine HF.out.mono ?_
            rintro e w5 ⟨⟨pa, hpv, rfl⟩, hb5⟩
            rw [HPC.out] at hpv
            obtain rfl := place_of hpv HV.out
            have OX : Hid ((w5.alloc (.cells #[.pointer (some ⟨bp, 0, none⟩), .string (parL s), .bool (splitD s), .int .i64 (longN (parN s ++ [parL s]))] 102)).heap[w5.heap.size]? = some (.cells #[.pointer (some ⟨bp, 0, none⟩), .string (parL s), .bool (splitD s), .int .i64 (longN (parN s ++ [parL s]))] 102 (0, 0))) := Lib.hid (blk_new rfl)
            have HBA := Lib.hid (below_call (below_call HB3.out hb5 (Nat.le_refl _)) (show Below w5.heap.size w5 (w5.alloc (.cells #[.pointer (some ⟨bp, 0, none⟩), .string (parL s), .bool (splitD s), .int .i64 (longN (parN s ++ [parL s]))] 102)) from (Below.refl _ w5).alloc (Nat.le_refl _) _) (Nat.le_refl _))
            have HX0 : Hid (w.heap.size ≤ w5.heap.size) := Lib.hid (Nat.le_trans HB3.out.size hb5.size)
            clear hb5 hpv HF
            unfold placeA
            obtain ⟨w6, hw6⟩ : ∃ w6, w6 = (w5.alloc (.cells #[.pointer (some ⟨bp, 0, none⟩), .string (parL s), .bool (splitD s), .int .i64 (longN (parN s ++ [parL s]))] 102)) := ⟨_, rfl⟩
            obtain ⟨xb, hxb⟩ : ∃ xb, xb = w5.heap.size := ⟨_, rfl⟩
            rw [← hw6, ← hxb] at OX
            rw [← hw6] at HBA
            have HW6 := Lib.hid hw6; have HXB := Lib.hid hxb
            clear hw6 hxb
            have H6 := Lib.hid (HT.out.below HBA.out)
            have hni := H6.out.node i bi ndi HPI.out HMI.out
            have c3 := cell_blk_some hni (i := 3) rfl
            have g3 := free_blk (i := 3) hni
            have hlk := HG.out.lk i (by rw [HMI.out]; rfl)
            have HLKN := Lib.hid (lkN_of HMI.out)
            rw [HLKN.out] at hlk HLN4
            obtain ⟨l1, l2, -⟩ := hlk
            by_cases h100 : ndi.links = 100
            · have HRES : Hid (linkN M old s = (31, M)) := Lib.hid (by rw [HLN4.out, if_pos h100])
              have HLT := Lib.hid (TLeft.same HT.out HFT.out HBA.out)
              rw [h100, HW6.out] at c3
              clear HLN4 hni h100 l1 l2 HLKN g3
              go_wp2_with fail
              rw [← HW6.out]
              go_ret
              rw [HRES.out]
              exact ⟨rfl, HLT.out⟩
            · have HRES : Hid (linkN M old s = (0, linkM M p (parL s) i)) := Lib.hid (by rw [HLN4.out, if_neg h100])
              have HLK1 : Hid (lkN M i ≠ 100) := Lib.hid (by rw [HLKN.out]; exact h100)
              have hc3 : (ndi.links == 100) = false := by simp [h100]
              have hnb := blk_set (i := 3) hni (.int .i64 (ndi.links + 1))
              have hfr : Fr (fun x => x = bi) w6 (w6.setCell ⟨bi, 3, none⟩ (.int .i64 (ndi.links + 1))) := (Fr.refl (fun x => x = bi) w6).setCell ⟨bi, 3, none⟩ rfl _
              have h7 : TIn (w6.setCell ⟨bi, 3, none⟩ (.int .i64 (ndi.links + 1))) tb nb cap P E (updV' V i (V i)) (setN M i (ndi.links + 1) ndi.data) := H6.out.nodeset HMI.out HPI.out hnb
                (own_frame (H6.out.data i ndi HMI.out) hfr fun g hg e => by
                  rcases (H6.out.data i ndi HMI.out).2 with hh | ⟨g2, cap', cur, e2, h1, hgg, hr'⟩
                  · rw [hh.1] at hg; cases hg
                  · rw [e2] at hg
                    injection hg with hg
                    have hg : g2 = g := hg
                    rw [hg, e, hni] at hgg
                    injection hgg with hgg
                    injection hgg with _ hgg _
                    exact absurd hgg (by decide)) (fun j c h1 h2' => H6.out.vin j i c h2' h1) (hfr.tell fun x hx => .inl hx)
              have hox : (w6.setCell ⟨bi, 3, none⟩ (.int .i64 (ndi.links + 1))).heap[xb]? = _ := blk_set_other OX.out (fun e => by
                have e : xb = bi := e
                have hx := OX.out
                rw [e, hni] at hx
                injection hx with hx
                injection hx with _ hx _
                exact absurd hx (by decide)) _
              have hw : IntKind.i64.wrap (ndi.links + 1) = ndi.links + 1 := IntWalk.i64_in _ (by omega)
              have H7 := Lib.hid h7; have HOX := Lib.hid hox; have HF7 := Lib.hid hfr
              clear hni hnb hfr h7 hox HLN4 h100 l1 l2
              rw [HW6.out] at c3 g3
              go_wp2_with fail
              rw [← HW6.out, ← HXB.out]
              have hdl : setN M i (ndi.links + 1) ndi.data = setN M i (lkN M i + 1) (datN M i) := by rw [HLKN.out, datN_of HMI.out]
              generalize (w6.setCell ⟨bi, 3, none⟩ (.int .i64 (ndi.links + 1))) = w7 at *
              clear c3 g3 hc3 hw
              rw [hdl] at H7
              obtain ⟨nq, hmq⟩ : ∃ nq, setN M i (lkN M i + 1) (datN M i) p = some nq := Option.isSome_iff_exists.1 (by rw [some_setN, HM.out]; rfl)
              have heq : entN (setN M i (lkN M i + 1) (datN M i)) p = f := by funext t; rw [entN_setN]; exact congrFun (ent_fun HM.out HFF.out) t
              have hqd : isDir (setN M i (lkN M i + 1) (datN M i)) p = true := isDir_setN.trans HDD.out
              obtain ⟨nq', fq, hmq', hfq⟩ := isDir_there hqd
              rw [hmq] at hmq'
              injection hmq' with hmq'
              subst hmq'
              have hff : fq = f := by rw [← ent_fun hmq hfq]; exact heq
              subst hff
              have hMp : MapIs Value.string w7 eb (entF P fq) := by
                have := H7.out.ents p nq hmq
                rw [hfq] at this
                obtain ⟨eb', he', hM'⟩ := this
                rw [HEE.out] at he'
                injection he' with he'
                rw [he']; exact hM'
              have hbp := H7.out.node p bp nq HPP.out hmq
              rw [HEE.out] at hbp
              obtain ⟨w8, hput, hM8, hf8⟩ := (hMp.same (w' := w7.drew) rfl).put klS Tryz.underlying69 (parL s) (nptr (P i))
              rw [← entF_set] at hM8
              have hf78 : Fr (fun x => x = eb) w7 w8 := ((Fr.refl _ w7).drew).trans hf8
              have hv8 : ∀ t j, updE fq (parL s) (some i) t = some j → (setN M i (lkN M i + 1) (datN M i) j).isSome = true := fun t j ht => by
                rw [some_setN]
                unfold updE at ht
                split at ht
                · injection ht with ht; rw [← ht, HMI.out]; rfl
                · exact HG.out.ok.ent p t j (by rw [ent_fun HM.out HFF.out]; exact ht)
              have h8 := H7.out.mapset hmq hfq HEE.out hM8 hv8 hf78
              have hlm : setE (setN M i (lkN M i + 1) (datN M i)) p (updE fq (parL s) (some i)) = linkM M p (parL s) i := by unfold linkM; rw [ent_fun HM.out HFF.out]
              rw [hlm] at h8
              have x0 := cell_blk_some HOX.out (i := 0) rfl
              have x1 := cell_blk_some HOX.out (i := 1) rfl
              have m1 := cell_blk_some hbp (i := 1) rfl
              rw [HPI.out] at hput
              unfold nptr at hput
              rw [Option.map_some] at hput
              have H8 := Lib.hid h8; have HF8 := Lib.hid hf78
              clear hdl hmq heq hqd hfq hMp hbp hM8 hf8 hf78 hv8 h8 hlm
              go_still_tail 8, (by kernel_rfl)
              change wpList _ _ _ _ _ w7.drew
              go_wp2_with fail
              go_ret
              rw [HRES.out]
              refine ⟨rfl, ⟨nb, P, E, _, H8.out, fun x hx => .inl (HFT.out x ?_)⟩, ?_⟩
              · rcases hx with h | h | h | h | ⟨j, h⟩
                · exact .inl h
                · exact .inr (.inl h)
                · exact .inr (.inr (.inl h))
                · exact .inr (.inr (.inr (.inl h)))
                · refine .inr (.inr (.inr (.inr ⟨j, ?_⟩)))
                  unfold updV' at h
                  split at h
                  · rename_i e; rw [e]; exact h
                  · exact h
              · refine ((Fr.below HBA.out).trans (HF7.out.tell fun x hx => ?_)).trans (HF8.out.tell fun x hx => ?_)
                · exact HFT.out x (.inr (.inr (.inl ⟨i, by rw [hx]; exact HPI.out⟩)))
                · exact HFT.out x (.inr (.inr (.inr (.inl ⟨p, by rw [hx]; exact HEE.out⟩))))
          · have HRES : Hid (linkN M old s = (freshC M s false, M)) := Lib.hid (by rw [HLN3.out, if_pos hc])
            have hce : (freshC M s false != 0) = true := by simp [hc]
            generalize freshC M s false = fc at *
            clear hc HLN3
            go_wp2_with fail
            refine HF.out.mono ?_
            rintro e w5 ⟨⟨pa, hpv, rfl⟩, hb5⟩
            obtain ⟨po, pl, pb, pn, rfl⟩ := place_pa hpv
            have HLT := Lib.hid (TLeft.same HT.out HFT.out (below_call (below_call HB3.out hb5 (Nat.le_refl _)) (show Below w5.heap.size w5 (w5.alloc (.cells #[.pointer po, .string pl, .bool pb, .int .i64 pn] 102)) from (Below.refl _ w5).alloc (Nat.le_refl _) _) (Nat.le_refl _)))
            clear hb5 hpv HF
            unfold placeA
            go_wp2_with fail
            go_ret
            rw [HRES.out]
            exact ⟨rfl, HLT.out⟩
    · have HRES : Hid (linkN M old s = (parE s, M)) := Lib.hid (by rw [HLN.out, if_neg (by rw [HE.out]; simp), if_pos hPE])
      have hc2 : (parE s != 0) = true := by simp [hPE]
      generalize parE s = c at *
      clear hPE HLN
      go_wp2_with fail
      refine HP.out.mono ?_
      rintro e w2 ⟨v2, rfl, -, hb2, -⟩
      have HLT := Lib.hid (TLeft.same HT.out HFT.out (below_call HB1.out hb2 (Nat.le_refl _)))
      clear hb2 HP
      go_wp2_with fail
      go_ret
      rw [HRES.out]
      exact ⟨rfl, HLT.out⟩
  · have HRES : Hid (linkN M old s = (splitE old, M)) := Lib.hid (by rw [HLN.out, if_pos hE])
    have hc2 : (splitE old != 0) = true := by simp [hE]
    generalize splitE old = c at *
    clear hE HLN
    go_enter Tryz.func21, Tryz.ntmps21
    go_wp2_with fail
    refine HS.out.mono ?_
    rintro e w1 ⟨v, rfl, -, hb1⟩
    have HLT := Lib.hid (TLeft.same HT.out HFT.out hb1)
    clear hb1 HS
    go_wp2_with fail
    go_ret
    rw [HRES.out]
    exact ⟨rfl, HLT.out⟩
end
end Go.Proofs.YtoofcnehoffllaaGreat

namespace Go.Proofs.YtoofcnehoffllaaGreat
open Go.RowKit

theorem elByte : ElT Tryz.prog 34 5 1 1 (.int .u8 0) := ⟨Tryz.underlying34, by kernel_rfl, by kernel_rfl, by decide⟩
theorem infoU8 : (Tryz.prog.info? 5).map (fun i => (i.zero, i.size, i.bytes)) = some (some (.int .u8 0), 1, 1) := by kernel_rfl
theorem u8s_one (l : List Int) : ∀ u ∈ u8s l, u.oneCell' = true := fun u hu => by
  obtain ⟨x, _, rfl⟩ := List.mem_map.1 hu; rfl
theorem u8s_length (l : List Int) : (u8s l).length = l.length := List.length_map ..
theorem u8s_append (l m : List Int) : u8s (l ++ m) = u8s l ++ u8s m := List.map_append ..
theorem u8s_take (l : List Int) (k : Nat) : u8s (l.take k) = (u8s l).take k := List.map_take ..
section
variable {w : World}
theorem cell_lt {x : Addr} {u : Value} (h : w.cell? x = some u) : x.block < w.heap.size := by
  unfold World.cell? at h
  cases hg : w.heap[x.block]? with
  | none => simp [hg] at h
  | some ob => exact blk_lt hg
theorem cell_same {w' : World} {x : Addr} (h : w'.heap[x.block]? = w.heap[x.block]?) : w'.cell? x = w.cell? x := by
  unfold World.cell?
  rw [h]
theorem SrcG.fr {S : Nat → Prop} {k : Nat} {w' : World} {v : Value} {n : Nat} {xs : List Value} (h : SrcG k w v n xs) (hf : Fr S w w') (hs : 0 < n → ∀ a c ad, v = .slice a n c → a = some ad → ¬ S ad.block) : SrcG k w' v n xs := by
  obtain ⟨a, c, rfl, hl, h1, hc⟩ := h
  refine ⟨a, c, rfl, hl, h1, fun hp => ?_⟩
  obtain ⟨ad, rfl, hh⟩ := hc hp
  refine ⟨ad, rfl, fun j u hj => ?_⟩
  have h2 := hh j u hj
  have hbk : (ad.add j).block = ad.block := by unfold Addr.add; first | rfl | (split <;> rfl)
  exact (cell_same (hf.block _ (cell_lt h2) (by rw [hbk]; exact hs hp _ _ _ rfl rfl))).trans h2
theorem SrcG.below {k : Nat} {w' : World} {v : Value} {n : Nat} {xs : List Value} (h : SrcG k w v n xs) (hb : Below w.heap.size w w') : SrcG k w' v n xs := h.fr (S := fun _ => False) (Fr.below hb) fun _ _ _ _ _ _ => id
set_option maxRecDepth 100000 in
theorem cloneB_any {v : Value} {n : Nat} {xs : List Value} (h : SrcG 1 w v n xs) (hn : n ≤ 1000000) :
    Calls Tryz.prog 33 #[v] w fun e w' => ∃ v', e = .returned v' ∧ w'.ownsRow w.heap.size 5 1 v' n xs ∧ Below w.heap.size w w' := by
  obtain ⟨a, c, rfl, hl, h1, hc⟩ := h
  cases a with
  | none =>
    have h0 : n = 0 := by
      rcases Nat.eq_zero_or_pos n with h | h
      · exact h
      · obtain ⟨ad, e, _⟩ := hc h; cases e
    subst h0
    have hx : xs = [] := List.eq_nil_of_length_eq_zero (by omega)
    subst hx
    clear hl h1 hc
    have hq := fun w => (Lib.run_eql_slice_nil (P := Tryz.prog) w 34 5 none 0 c 0 0 Tryz.underlying34)
    go_enter Tryz.func33, Tryz.ntmps33
    go_wp2_with fail
    go_ret
    exact ⟨_, rfl, ⟨rfl, .inl ⟨rfl, rfl⟩⟩, Below.refl _ _⟩
  | some ad =>
    have hs : SrcG 1 (w.alloc (.cells #[] 5)) (.slice (some ad) n c) n xs := SrcG.below ⟨_, _, rfl, hl, h1, hc⟩ ((Below.refl _ w).alloc (Nat.le_refl _) _)
    have ho : (w.alloc (.cells #[] 5)).ownsRow w.heap.size 5 1 (.slice (some ⟨w.heap.size, 0, none⟩) 0 0) 0 [] := own_block (xs := []) (blk_new rfl) rfl rfl (Nat.le_refl _) (by decide)
    have HS := Lib.hid hs; have HO := Lib.hid ho
    have hq := fun w => (Lib.run_eql_slice_nil (P := Tryz.prog) w 34 5 (some ad) n c 0 0 Tryz.underlying34)
    clear hl h1 hc hs ho
    go_enter Tryz.func33, Tryz.ntmps33
    go_wp2_with (refine wpList_append_g (by rfl) (.tmp 5) (.tmp 6) (by rfl) elByte (by rfl) HO.out (by rfl) HS.out (by unfold maxLen; omega) (by omega) (by simp) ?_)
    intro v5 w5 ho5 hf5 hv5
    have HO5 := Lib.hid ho5; have HF5 := Lib.hid hf5
    clear ho5 hf5 hv5
    go_wp2_with fail
    go_ret
    refine ⟨v5, rfl, by have := HO5.out; first | exact this | (rw [Nat.zero_add] at this; exact this), ?_⟩
    exact ((Below.refl _ w).alloc (Nat.le_refl _) _).trans (HF5.out.toBelow (by simp) fun x hx => by injection hx with hx; subst hx; exact Nat.le_refl _)
end
section
variable {P : Program} (w : World)
/-- Append of zeros; where the row lies then. -/
theorem run_append_zeros2 (base : Nat) (t tn ty e : TypeId) (i : TypeInfo) (z : Value) (bytes : Nat) (kq kn : IntKind) (ht : P.underlying t = some (.slice e)) (htn : P.underlying tn = some (.int kn)) (hi : P.info? e = some i) (hz : i.zero = some z)
    (hzc : z.cells = #[z]) (h1 : z.oneCell' = true) (hsize : i.size = 1) (hby : i.bytes = bytes)
    (v : Value) (n : Nat) (xs : List Value) (hown : w.ownsRow base e 1 v n xs) (k : Nat)
    (h63 : n + k ≤ maxLen) (hbytes : (n + k) * bytes ≤ 140737488355328) (hb1 : k * bytes ≤ 140737488355328) (hbase : base ≤ w.heap.size) :
    ∃ v' w', (Builtin.append_ #[t, tn] ty #[v, .int kq k]).run P w = .ok v' w' ∧ w'.ownsRow base e 1 v' (n + k) (xs ++ List.replicate k z) ∧ w.grownBy w' v.ownBlock ∧ (v'.ownBlock = v.ownBlock ∨ v'.ownBlock = some w.heap.size) := by
  have rr : ∀ {A : Value → World → Prop} {o : Option Nat}, (∃ v' w', A v' w' ∧ w'.ownsRow base e 1 v' (n + k) (xs ++ List.replicate k z) ∧ w.grownBy w' o ∧ v'.ownBlock = some w.heap.size) → ∃ v' w', A v' w' ∧ w'.ownsRow base e 1 v' (n + k) (xs ++ List.replicate k z) ∧ w.grownBy w' o ∧ (v'.ownBlock = o ∨ v'.ownBlock = some w.heap.size) := fun ⟨v', w', a, b, c, d⟩ => ⟨v', w', a, b, c, .inr d⟩
  have hsmall : n + k ≤ 9223372036854775807 := by simp only [maxLen] at h63; omega
  have hxl : xs.length = n := by simpa using hown.1
  have hlen : (xs ++ List.replicate k z).length = (n + k) * 1 := by rw [List.length_append, hxl, List.length_replicate, Nat.mul_one]
  have hw : IntKind.i64.wrap (k : Int) = k := by rw [IntKind.wrap_i64]; omega
  have h48i : ¬ (281474976710656 < (k : Int) * (bytes : Int)) := by rw [← Int.natCast_mul]; omega
  have hneg : ¬ ((k : Int) < 0) := by omega
  by_cases hk : k = 0
  · subst hk
    have hw0 : IntKind.i64.wrap 0 = 0 := by decide
    refine ⟨v, w, ?_, by simpa using hown, ⟨rfl, rfl, rfl, Nat.le_refl _, fun _ _ _ => rfl⟩, .inl rfl⟩
    rcases hown.2 with ⟨rfl, rfl⟩ | ⟨g, cap, cur, rfl, hbg, hg, hnc, hcm, hcs, htake⟩
    · simp [Builtin.append_, run_underlying ht, run_underlying htn, sizeOf, typeInfo, hi, asInt, asIntOf, hw0, hby]
    · simp [Builtin.append_, run_underlying ht, run_underlying htn, sizeOf, typeInfo, hi, asInt, asIntOf, hw0, hby, hnc, storeCells]
  · have grows : ∀ (ao : Option Addr) (old : Nat), old < n + k → (Builtin.firstCells i.size n (.slice ao n old)).run P w.drew = .ok xs.toArray w.drew → ∀ row : Option Nat,
        ∃ v' w', (Builtin.append_ #[t, tn] ty #[.slice ao n old, .int kq k]).run P w = .ok v' w' ∧ w'.ownsRow base e 1 v' (n + k) (xs ++ List.replicate k z) ∧ w.grownBy w' row ∧ v'.ownBlock = some w.heap.size := by
      intro ao old ho hf row
      have hr := Lib.run_append_grow_zeros (P := P) w t tn ty e i z kq kn ht htn hi hz ao n old xs hf k (by omega) (by omega) ho (by omega) (by rw [hby]; omega) (by
        rw [hby]
        exact growslice_fits (by omega) (by omega))
      have hge := grownCap_ge w (n + k) old e
      have hcm : grownCap w (n + k) old e ≤ maxLen := grownCap_le_maxLen w (n + k) old e h63
      refine ⟨_, _, hr, ⟨hlen, .inr ⟨w.heap.size, _, _, rfl, hbase, heap_alloc_new w.drew _, hge, hcm, ?_, ?_⟩⟩, ⟨rfl, rfl, rfl, by simp, fun k hk _ => Below.heap_alloc w.drew _ k hk⟩, rfl⟩
      · rw [hzc]
        simp only [Array.size_append, List.size_toArray, zeroCells_one, hxl, List.length_replicate]
        omega
      · rw [hzc]
        simp only [Array.toList_append, zeroCells_one]
        rw [← hlen]
        exact List.take_left
    rcases hown.2 with ⟨rfl, rfl⟩ | ⟨g, cap, cur, rfl, hbg, hg, hnc, hcm, hcs, htake⟩
    · have hx : xs = [] := List.eq_nil_of_length_eq_zero hxl
      subst hx
      exact rr (grows none 0 (by omega) (by simp [Builtin.firstCells]) _)
    · by_cases hroom : n + k ≤ cap
      · have hcs' : cur.size = cap := by simpa using hcs
        have hst := run_storeCells_at P g n e (List.replicate k z) 0 cur w hg (by simp; omega) (fun u hu => by rw [List.eq_of_mem_replicate hu]; exact h1)
        simp only [Nat.add_zero, List.length_replicate] at hst
        have hr : (Builtin.append_ #[t, tn] ty #[.slice (some ⟨g, 0, none⟩) n cap, .int kq k]).run P w =
            .ok (.slice (some ⟨g, 0, none⟩) (n + k) cap) (w.setRow g (cur.toList.take n ++ List.replicate k z ++ cur.toList.drop (n + k)).toArray) := by
          simp [Builtin.append_, run_underlying ht, run_underlying htn, sizeOf, typeInfo, zeroValue, hi, hz, hsize, asInt, asIntOf, hw, hneg, hby, h48i, hroom, hk, hzc, zeroCells_one, Addr.add_lit, hst]
        refine ⟨_, _, hr, ⟨hlen, .inr ⟨g, cap, _, rfl, hbg, setRow_heap w g cur _ e _ hg, hroom, hcm, ?_, ?_⟩⟩, ⟨rfl, rfl, rfl, by simp, fun k _ hk => setRow_other w g k _ (fun e => hk (by simp [Value.ownBlock, e]))⟩, .inl rfl⟩
        · simp only [List.size_toArray, List.length_append, List.length_take, List.length_drop, Array.length_toList, List.length_replicate]
          omega
        · have ht' : cur.toList.take n = xs := by simpa using htake
          rw [ht', ← hlen]
          exact List.take_left
      · have holds : ∀ j u, xs[j]? = some u → w.cell? ((⟨g, 0, none⟩ : Addr).add j) = some u := hown.cells (g := g) rfl
        exact rr (grows (some ⟨g, 0, none⟩) cap (by omega) (run_firstCells_some (P := P) w.drew i.size n _ n cap xs (by rw [hsize]; simpa using hxl) (by simpa using holds)) _)
theorem step_append_zeros {ops : Array Oper} {o : Oper} {a : Act} {K : Act → World → Prop} {Q : Exit → Act → World → Prop} {F : Prop} (hgd : o.guard = none) (sl x : Operand) (t tn : TypeId)
    (ho : o.op = .call { callee := .builtin .append, args := #[sl, x], argTypes := #[t, tn] })
    (base : Nat) (e : TypeId) (i : TypeInfo) (z : Value) (bytes : Nat) (kq kn : IntKind) (ht : P.underlying t = some (.slice e)) (htn : P.underlying tn = some (.int kn)) (hi : P.info? e = some i) (hz : i.zero = some z)
    (hzc : z.cells = #[z]) (h1 : z.oneCell' = true) (hsize : i.size = 1) (hby : i.bytes = bytes)
    (v : Value) (n : Nat) (xs : List Value) (hs : a.eval sl = v) (hown : w.ownsRow base e 1 v n xs) (k : Nat) (c : Int) (hx : a.eval x = .int kq c) (hc : c = k)
    (h63 : n + k ≤ maxLen) (hbytes : (n + k) * bytes ≤ 140737488355328) (hb1 : k * bytes ≤ 140737488355328) (hbase : base ≤ w.heap.size)
    (h : ∀ v' w', w'.ownsRow base e 1 v' (n + k) (xs ++ List.replicate k z) → w.grownBy w' v.ownBlock → (v'.ownBlock = v.ownBlock ∨ v'.ownBlock = some w.heap.size) → K (a.put o.dst v') w') :
    if Region.wanted o (yielded ops a.tmps) = true then Oper.wp P o a w K Q else F := by
  have hw : Region.wanted o (yielded ops a.tmps) = true := by simp [Region.wanted, hgd]
  rw [if_pos hw]
  subst hc
  obtain ⟨v', w', hr, h2, h3, h4⟩ := run_append_zeros2 (P := P) w base t tn o.type e i z bytes kq kn ht htn hi hz hzc h1 hsize hby v n xs hown k h63 hbytes hb1 hbase
  unfold Oper.wp execOp
  simp only [ho, resolve, invoke, builtin, Sem.run_bind, Sem.run_pure, Result.andThen_ok, List.map_toArray, List.map_cons, List.map_nil, hs, hx, hr]
  exact h v' w' h2 h3 h4
end
/-- Bytes cut, or with zeros behind, to so many. -/
def sizedN (d : List Int) (k : Nat) : List Int := (d ++ List.replicate (k - d.length) 0).take k
theorem sizedN_length (d : List Int) (k : Nat) : (sizedN d k).length = k := by unfold sizedN; rw [List.length_take, List.length_append, List.length_replicate]; omega
section
variable {w : World}
theorem own_cut {B k : Nat} {E : TypeId} {a : Option Addr} {n c : Nat} {xs : List Value} (h : w.ownsRow B E 1 (.slice a n c) n xs) (hk : k ≤ n) : w.ownsRow B E 1 (.slice a k c) k (xs.take k) := by
  have hl : xs.length = n * 1 := h.1
  refine ⟨by rw [List.length_take]; omega, ?_⟩
  rcases h.2 with ⟨h1, h2⟩ | ⟨g, cap, cur, h1, h2, h3, h4, h5, h6, h7⟩
  · injection h1 with e1 e2 e3
    subst e1 e3
    refine .inl ⟨?_, by omega⟩
    rw [show k = 0 by omega]
  · injection h1 with e1 e2 e3
    subst e1 e3
    refine .inr ⟨g, c, cur, rfl, h2, h3, by omega, h5, h6, ?_⟩
    rw [← h7, List.take_take, Nat.mul_one, Nat.mul_one, Nat.min_eq_left hk]
set_option maxHeartbeats 2000000 in
set_option maxRecDepth 100000 in
theorem grow_any {b k : Nat} {i : Int} {o : Option Nat} {l : Int} {v : Value} {d : List Int}
    (hb : w.heap[b]? = some (.cells #[.int .i64 i, .map o, v, .int .i64 l] 71 (0, 0))) (hv : w.ownsRow 0 5 1 v d.length (u8s d)) (hd : d.length ≤ 100000) (hk : k ≤ 100000) :
    Calls Tryz.prog 136 #[.pointer (some ⟨b, 0, none⟩), .int .i64 k] w fun e w' => e = .returned (.tuple #[]) ∧ ∃ v', w'.heap[b]? = some (.cells #[.int .i64 i, .map o, v', .int .i64 l] 71 (0, 0)) ∧
      w'.ownsRow 0 5 1 v' (sizedN d k).length (u8s (sizedN d k)) ∧ (v'.ownBlock = v.ownBlock ∨ ∃ c, v'.ownBlock = some c ∧ w.heap.size ≤ c) ∧ Fr (fun x => x = b ∨ v.ownBlock = some x) w w' := by
  obtain ⟨i0, hi, hz0, hz1, hz2⟩ := info_parts infoU8
  have hoff : v.ownBlock ≠ some b := own_off hv hb (by decide)
  have c2 := cell_blk_some hb (i := 2) rfl
  have g2 := free_blk (i := 2) hb
  have hd' : ((d.length : Nat) : Int) ≤ 100000 := by omega
  have hk' : (k : Int) ≤ 100000 := by omega
  by_cases hkd : d.length < k
  · obtain ⟨va, vc, rfl⟩ := own_shape hv
    have HB := Lib.hid hb; have HV := Lib.hid hv; have HO := Lib.hid hoff
    have hlt : (d.length : Int) < (k : Int) := by omega
    have hw1 : IntKind.i64.wrap ((k : Int) - d.length) = (k : Int) - d.length := IntWalk.i64_in _ (by omega)
    have hkn : IntKind.i64.wrap ((k - d.length : Nat) : Int) = ((k - d.length : Nat) : Int) := IntWalk.i64_in _ (by omega)
    clear hb hv hoff
    go_enter Tryz.func136, Tryz.ntmps136
    go_wp2_with fail
    go_region_law
      (refine step_append_zeros _ rfl (.tmp 15) (.tmp 22) 34 3 rfl 0 5 i0 (.int .u8 0) 1 .i64 .i64 Tryz.underlying34 Tryz.underlying3 hi hz0 rfl rfl hz1 hz2 _ _ _ rfl HV.out (k - d.length) _ rfl (by first | exact hkn | omega) (by unfold maxLen; omega) (by omega) (by omega) (by omega) ?_
       intro v2 w2 hown2 hgr2 hloc2
       rw [show d.length + (k - d.length) = k by omega] at hown2
       rcases hown2.2 with ⟨-, h0⟩ | ⟨g, c, cur, rfl, -, hg, hc, hm, -, -⟩
       · omega
       have m1 : (k : Int) ≤ (c : Int) := by omega
       have m0 : (0 : Int) ≤ (k : Int) := by omega
       have m2 : (0 : Int) ≤ (c : Int) := by omega
       have hf2 : Fr (fun x => (Value.slice va d.length vc).ownBlock = some x) w.drew w2 := Fr.grown hgr2
       have hl2 : (Value.slice (some ⟨g, 0, none⟩) k c).ownBlock = (Value.slice va d.length vc).ownBlock ∨ (Value.slice (some ⟨g, 0, none⟩) k c).ownBlock = some w.heap.size := hloc2
       have hb2 := (hf2.block b (blk_lt HB.out) HO.out).trans HB.out
       have d2 := cell_blk_some hb2 (i := 2) rfl
       have e2 := free_blk (i := 2) hb2
       have HB2 := Lib.hid hb2; have HF2 := Lib.hid hf2; have HO2 := Lib.hid hown2; have HL2 := Lib.hid hl2
       clear hown2 hgr2 hloc2 hl2 hf2 hb2 hg
       dsimp only)
    all_goals
      go_wp2_with fail
      go_end0
      have hf : Fr (fun x => x = b) w2 ((w2.setCell ⟨b, 2, none⟩ (.slice (some ⟨g, 0, none⟩) k c)).setCell ⟨b, 2, none⟩ (.slice (some ⟨g, 0, none⟩) k c)) := ((Fr.refl (fun x => x = b) w2).setCell ⟨b, 2, none⟩ rfl _).setCell ⟨b, 2, none⟩ rfl _
      have hz : u8s (sizedN d k) = u8s d ++ List.replicate (k - d.length) (.int .u8 0) := by
        unfold sizedN
        rw [List.take_of_length_le (by rw [List.length_append, List.length_replicate]; omega), u8s_append]
        unfold u8s
        rw [List.map_replicate]
      refine ⟨rfl, _, blk_set (i := 2) (blk_set (i := 2) HB2.out _) _, ?_, HL2.out.imp id fun e => ⟨_, e, Nat.le_refl _⟩, ?_⟩
      · rw [sizedN_length, hz]
        exact own_frame HO2.out hf fun g' hg' e => by
          rcases HL2.out with e2 | e2
          · exact HO.out (by rw [← e, ← e2]; exact hg')
          · rw [e2] at hg'
            injection hg' with hg'
            have := blk_lt HB.out
            omega
      · exact ((((Fr.refl _ w).drew).trans (HF2.out.tell fun x hx => .inr hx)).trans (hf.tell fun x hx => .inl hx))
  · have hle : (k : Int) ≤ (d.length : Int) := by omega
    have hnl : ¬ (d.length : Int) < (k : Int) := by omega
    rcases hv.2 with ⟨rfl, h0⟩ | ⟨g, c, cur, rfl, h0, hg, hc, hm, hs, ht⟩
    · have hk0 : k = 0 := by omega
      subst hk0
      have hdn : d = [] := List.eq_nil_of_length_eq_zero h0
      subst hdn
      have HB := Lib.hid hb; have HV := Lib.hid hv
      clear hb hv hoff
      go_enter Tryz.func136, Tryz.ntmps136
      go_wp2_with fail
      go_end0
      exact ⟨rfl, _, blk_set (i := 2) HB.out _, own_frame HV.out (S := fun x => x = b) ((Fr.refl (fun x => x = b) w).setCell ⟨b, 2, none⟩ rfl _) (fun g hg => by cases hg), .inl rfl, (Fr.refl _ w).setCell ⟨b, 2, none⟩ (.inl rfl) _⟩
    · have m1 : (k : Int) ≤ (c : Int) := by omega
      have m0 : (0 : Int) ≤ (k : Int) := by omega
      have m2 : (0 : Int) ≤ (c : Int) := by omega
      have HB := Lib.hid hb; have HV := Lib.hid hv; have HO := Lib.hid hoff
      clear hb hv hoff ht hs hg h0
      go_enter Tryz.func136, Tryz.ntmps136
      go_wp2_with fail
      go_end0
      have hz : sizedN d k = d.take k := by unfold sizedN; rw [show k - d.length = 0 by omega, List.replicate_zero, List.append_nil]
      have hf : Fr (fun x => x = b) w (w.setCell ⟨b, 2, none⟩ (.slice (some ⟨g, 0, none⟩) k c)) := (Fr.refl (fun x => x = b) w).setCell ⟨b, 2, none⟩ rfl _
      refine ⟨rfl, _, blk_set (i := 2) HB.out _, ?_, .inl rfl, hf.tell fun x hx => .inl hx⟩
      have := own_cut HV.out (k := k) (by omega)
      rw [sizedN_length, hz, u8s_take]
      exact own_frame this hf fun g' hg' e => HO.out (by rw [← e]; exact hg')
end
end Go.Proofs.YtoofcnehoffllaaGreat

namespace Go.Proofs.YtoofcnehoffllaaGreat
open Go.RowKit

theorem fileV_eq {P : Nat → Option Nat} {M : TM} {s : ByteArray} : fileV P M s = leadV P (fileN M s) := by
  unfold fileV fileN
  cases lookN M s with
  | inr e => rfl
  | inl i =>
    dsimp only
    cases isDir M i <;> rfl
theorem file_code {M : TM} {s : ByteArray} {c : Int} (h : fileN M s = .inr c) : c ≠ 0 := by
  unfold fileN at h
  cases hq : lookN M s with
  | inr e => rw [hq] at h; injection h with h; rw [← h]; exact look_code hq
  | inl i =>
    rw [hq] at h
    dsimp only at h
    split at h
    · injection h with h; omega
    · cases h
theorem file_in {M : TM} {s : ByteArray} {i : Nat} (h : fileN M s = .inl i) : lookN M s = .inl i ∧ isDir M i = false := by
  unfold fileN at h
  cases hq : lookN M s with
  | inr e => rw [hq] at h; cases h
  | inl j =>
    rw [hq] at h
    dsimp only at h
    split at h
    · cases h
    · rename_i hd
      injection h with h
      subst h
      exact ⟨rfl, by simpa using hd⟩
/-- Bytes written over others, zeros between. -/
def wrData (d : List Int) (at_ : Nat) (x : List Int) : List Int := splice (sizedN d (max d.length (at_ + x.length))) at_ x
theorem u8s_splice (l : List Int) (o : Nat) (x : List Int) : splice (u8s l) o (u8s x) = u8s (splice l o x) := by
  unfold splice u8s
  simp
theorem splice_take {α : Type} (L : List α) (p K : Nat) (c : List α) (h : p + c.length ≤ K) : (splice L p c).take K = splice (L.take K) p c := by
  unfold splice
  apply List.ext_getElem?
  intro j
  simp only [List.getElem?_take, List.getElem?_append, List.length_take, List.getElem?_drop]
  grind
/-- What Write answers, and what the tree is then. -/
def writeN (M : TM) (s : ByteArray) (at_ : Int) (x : List Int) : Int × TM := match fileN M s with
  | .inr c => (c, M)
  | .inl i => if at_ < 0 ∨ 4096 < x.length then (22, M) else if 38400 - (x.length : Int) < at_ then (27, M) else if x.length = 0 then (0, M) else (0, setN M i (lkN M i) (wrData (datN M i) at_.toNat x))
/-- What Truncate answers, and what the tree is then. -/
def truncN (M : TM) (s : ByteArray) (k : Int) : Int × TM := match fileN M s with
  | .inr c => (c, M)
  | .inl i => if k < 0 then (22, M) else if 38400 < k then (27, M) else (0, setN M i (lkN M i) (sizedN (datN M i) k.toNat))
section
variable {w w' : World} {tb nb cap : Nat} {P E : Nat → Option Nat} {V : Nat → Value} {M : TM}
/-- A node's data turned: the tree then. -/
theorem TIn.dataset (h : TIn w tb nb cap P E V M) {F : Nat → Prop} (hFt : ∀ b, TFoot tb nb P E V b → F b) {w5 : World} (h5 : Below w.heap.size w w5) {i b : Nat} {nd : Nd} {v : Value} {d : List Int} (hm : M i = some nd) (hp : P i = some b)
    (hnode : w'.heap[b]? = some (.cells #[.int .i64 i, .map (E i), v, .int .i64 nd.links] 71 (0, 0))) (hown : w'.ownsRow 0 5 1 v d.length (u8s d))
    (hl : ∀ c, v.ownBlock = some c → (V i).ownBlock = some c ∨ w5.heap.size ≤ c) (hfr : Fr (fun x => x = b ∨ (V i).ownBlock = some x) w5 w') : TLeft w w' tb cap F (setN M i (lkN M i) d) := by
  have h5' := h.below h5
  have hn := h5'.nodeset (l := nd.links) hm hp hnode hown (fun j c h1 h2 => by
    rcases hl c h1 with e | hc'
    · exact h5'.vin j i c h2 e
    · cases hmj : M j with
      | none => rw [(h5'.eno j hmj).2] at h2; cases h2
      | some q =>
        have := (World.ownsRow.lt (h5'.data j q hmj) c h2).2
        omega) hfr
  rw [← lkN_of hm] at hn
  refine ⟨⟨nb, P, E, _, hn, fun x hx => ?_⟩, (Fr.below h5).trans (hfr.tell fun x hx => ?_)⟩
  · rcases hx with h | h | h | h | ⟨j, h⟩
    · exact .inl (hFt _ (.inl h))
    · exact .inl (hFt _ (.inr (.inl h)))
    · exact .inl (hFt _ (.inr (.inr (.inl h))))
    · exact .inl (hFt _ (.inr (.inr (.inr (.inl h)))))
    · unfold updV' at h
      split at h
      · rcases hl _ h with e | hc'
        · exact .inl (hFt _ (.inr (.inr (.inr (.inr ⟨i, e⟩)))))
        · have := h5.size
          exact .inr (by omega)
      · exact .inl (hFt _ (.inr (.inr (.inr (.inr ⟨j, h⟩)))))
  · rcases hx with h | h
    · exact hFt _ (.inr (.inr (.inl ⟨i, by rw [h]; exact hp⟩)))
    · exact hFt _ (.inr (.inr (.inr (.inr ⟨i, h⟩))))
set_option maxHeartbeats 2000000 in
set_option maxRecDepth 100000 in
theorem write_any {F : Nat → Prop} (hAt : TAt w tb cap F M) (hG : TG M cap) (s : ByteArray) (hs : s.size ≤ 1000000) (at_ : Int) (hat : -9223372036854775808 ≤ at_ ∧ at_ ≤ 9223372036854775807) {dv : Value} {x : List Int}
    (hx : SrcG 1 w dv x.length (u8s x)) (hxF : 0 < x.length → ∀ a c ad, dv = .slice a x.length c → a = some ad → ¬ F ad.block) (hxl : x.length ≤ 1000000) :
    Calls Tryz.prog 133 #[.pointer (some ⟨tb, 0, none⟩), .string s, .int .i64 at_, dv] w fun e w' => e = .returned (.int .i64 (writeN M s at_ x).1) ∧ TLeft w w' tb cap F (writeN M s at_ x).2 := by
  obtain ⟨nb, P, E, V, h, hFt⟩ := hAt
  have HFT := Lib.hid hFt; have HT := Lib.hid h; have HG := Lib.hid hG; have HX := Lib.hid hx; have HXF := Lib.hid hxF
  have hf := file_any h s hs
  rw [fileV_eq] at hf
  have HF := Lib.hid hf
  have HW : Hid (writeN M s at_ x = match fileN M s with
    | .inr c => (c, M)
    | .inl i => if at_ < 0 ∨ 4096 < x.length then (22, M) else if 38400 - (x.length : Int) < at_ then (27, M) else if x.length = 0 then (0, M) else (0, setN M i (lkN M i) (wrData (datN M i) at_.toNat x))) := Lib.hid rfl
  obtain ⟨xa, xc, rfl⟩ : ∃ a c, dv = .slice a x.length c := by
    obtain ⟨a, c, e, _⟩ := hx
    exact ⟨a, c, e⟩
  obtain ⟨a1, a2⟩ := hat
  have hxl' : (x.length : Int) ≤ 1000000 := by omega
  clear hFt h hG hf hs hx hxF
  cases hq : fileN M s with
  | inr c =>
    have hc := file_code hq
    have HRES : Hid (writeN M s at_ x = (c, M)) := Lib.hid (by rw [HW.out, hq])
    rw [hq] at HF
    have hc2 : (c != 0) = true := by simp [hc]
    clear hq hc HW
    unfold leadV at HF
    go_enter Tryz.func133, Tryz.ntmps133
    go_wp2_with fail
    refine HF.out.mono ?_
    rintro e w1 ⟨rfl, hb1⟩
    have HLT := Lib.hid (TLeft.same HT.out HFT.out hb1)
    clear hb1 HF
    go_wp2_with fail
    go_ret
    rw [HRES.out]
    exact ⟨rfl, HLT.out⟩
  | inl i =>
    obtain ⟨hlk, hdi⟩ := file_in hq
    have hi := look_isin HT.out hlk
    obtain ⟨nd, hm⟩ := Option.isSome_iff_exists.1 hi
    obtain ⟨b, hp, _⟩ := HT.out.at_ hm
    have HLV : leadV P (.inl i) = .tuple #[.pointer (some ⟨b, 0, none⟩), .int .i64 0] := by show Value.tuple #[nptr (P i), _] = _; rw [hp]; rfl
    have hw2 : writeN M s at_ x = if at_ < 0 ∨ 4096 < x.length then (22, M) else if 38400 - (x.length : Int) < at_ then (27, M) else if x.length = 0 then (0, M) else (0, setN M i (lkN M i) (wrData (datN M i) at_.toNat x)) := by rw [HW.out, hq]
    have HW2 := Lib.hid hw2
    rw [hq, HLV] at HF
    have HM := Lib.hid hm; have HP := Lib.hid hp
    clear hq hlk hdi hi hm hp HLV hw2 HW
    by_cases h1 : at_ < 0
    · have HRES : Hid (writeN M s at_ x = (22, M)) := Lib.hid (by rw [HW2.out, if_pos (.inl h1)])
      clear HW2
      go_enter Tryz.func133, Tryz.ntmps133
      go_wp2_with fail
      refine HF.out.mono ?_
      rintro e w1 ⟨rfl, hb1⟩
      have HLT := Lib.hid (TLeft.same HT.out HFT.out hb1)
      clear hb1 HF
      go_wp2_with fail
      go_ret
      rw [HRES.out]
      exact ⟨rfl, HLT.out⟩
    · have g1 : decide (at_ < 0) = false := dec_false h1
      by_cases h2 : 4096 < x.length
      · have HRES : Hid (writeN M s at_ x = (22, M)) := Lib.hid (by rw [HW2.out, if_pos (.inr h2)])
        have g2 : (4096 : Int) < (x.length : Int) := by omega
        clear HW2
        go_enter Tryz.func133, Tryz.ntmps133
        go_wp2_with fail
        refine HF.out.mono ?_
        rintro e w1 ⟨rfl, hb1⟩
        have HLT := Lib.hid (TLeft.same HT.out HFT.out hb1)
        clear hb1 HF
        go_wp2_with fail
        go_ret
        rw [HRES.out]
        exact ⟨rfl, HLT.out⟩
      · have g2 : ¬ (4096 : Int) < (x.length : Int) := by omega
        have hw1 : IntKind.i64.wrap (38400 - (x.length : Int)) = 38400 - (x.length : Int) := IntWalk.i64_in _ (by omega)
        by_cases h3 : 38400 - (x.length : Int) < at_
        · have HRES : Hid (writeN M s at_ x = (27, M)) := Lib.hid (by rw [HW2.out, if_neg (by omega), if_pos h3])
          clear HW2
          go_enter Tryz.func133, Tryz.ntmps133
          go_wp2_with fail
          refine HF.out.mono ?_
          rintro e w1 ⟨rfl, hb1⟩
          have HLT := Lib.hid (TLeft.same HT.out HFT.out hb1)
          clear hb1 HF
          go_wp2_with fail
          go_ret
          rw [HRES.out]
          exact ⟨rfl, HLT.out⟩
        · by_cases h4 : x.length = 0
          · have HRES : Hid (writeN M s at_ x = (0, M)) := Lib.hid (by rw [HW2.out, if_neg (by omega), if_neg h3, if_pos h4])
            have g4 : (x.length : Int) = 0 := by omega
            clear HW2
            go_enter Tryz.func133, Tryz.ntmps133
            go_wp2_with fail
            refine HF.out.mono ?_
            rintro e w1 ⟨rfl, hb1⟩
            have HLT := Lib.hid (TLeft.same HT.out HFT.out hb1)
            clear hb1 HF
            go_wp2_with fail
            go_ret
            rw [HRES.out]
            exact ⟨rfl, HLT.out⟩
          · have HRES : Hid (writeN M s at_ x = (0, setN M i (lkN M i) (wrData (datN M i) at_.toNat x))) := Lib.hid (by rw [HW2.out, if_neg (by omega), if_neg h3, if_neg h4])
            have g4 : (0 : Int) < (x.length : Int) := by omega
            obtain ⟨p, hpn⟩ : ∃ p : Nat, at_ = p := ⟨at_.toNat, by omega⟩
            subst hpn
            have hdb := HG.out.byt i
            rw [datN_of HM.out] at hdb HRES
            clear HW2
            go_enter Tryz.func133, Tryz.ntmps133
            go_wp2_with fail
            refine HF.out.mono ?_
            rintro e w1 ⟨rfl, hb1⟩
            have hn1 := (HT.out.below hb1).node i b nd HP.out HM.out
            have hd1 := (HT.out.below hb1).data i nd HM.out
            have c2 := cell_blk_some hn1 (i := 2) rfl
            have HB1 := Lib.hid hb1; have HN1 := Lib.hid hn1; have HD1 := Lib.hid hd1
            obtain ⟨va, vc, hva⟩ := own_shape hd1
            rw [hva] at c2
            have d1 : (nd.data.length : Int) ≤ 38400 := by omega
            clear hb1 HF hn1 hd1 hdb
            go_wp2_with fail
            obtain ⟨K, hK⟩ : ∃ K, K = max nd.data.length (p + x.length) := ⟨_, rfl⟩
            have hKi : max ((nd.data.length : Nat) : Int) ((p : Int) + (x.length : Int)) = (K : Int) := by omega
            have HKI := Lib.hid hKi; have HK := Lib.hid hK
            have hK1 : p + x.length ≤ K := by omega
            have hK2 : K ≤ 40000 := by omega
            clear hKi hK
            rw [HKI.out]
            refine (grow_any (k := K) HN1.out HD1.out (by omega) (by omega)).mono ?_
            rintro e w2 ⟨rfl, v2, hn2, ho2, hl2, hf2⟩
            rw [sizedN_length] at ho2
            have hS1 : ∀ y, (y = b ∨ (V i).ownBlock = some y) → F y := fun y hy => by
              rcases hy with h | h
              · exact HFT.out y (.inr (.inr (.inl ⟨i, by rw [h]; exact HP.out⟩)))
              · exact HFT.out y (.inr (.inr (.inr (.inr ⟨i, h⟩))))
            have hx2 : SrcG 1 w2 (.slice xa x.length xc) x.length (u8s x) := (HX.out.below HB1.out).fr hf2 fun h0 a c ad e1 e2 h3 => HXF.out h0 a c ad e1 e2 (hS1 _ h3)
            obtain ⟨xa', xc', e1, -, -, hcells⟩ := hx2
            injection e1 with e1 _ e3
            subst e1 e3
            obtain ⟨ad, rfl, hcells2⟩ := hcells (by omega)
            have hne : v2.ownBlock ≠ some b := own_off ho2 hn2 (by decide)
            rcases ho2.2 with ⟨-, h0⟩ | ⟨g, c, cur, rfl, -, hg, hgc, hgm, hgs, hgt⟩
            · omega
            have hgs' : cur.size = c := by omega
            have c3 := cell_blk_some hn2 (i := 2) rfl
            have m1 : (K : Int) ≤ (c : Int) := by omega
            have m0 : (0 : Int) ≤ (p : Int) := by omega
            have m2 : (p : Int) ≤ (K : Int) := by omega
            have m3 : ¬ c = p := by omega
            have HFI : Hid (p + (u8s x).length ≤ cur.size) := Lib.hid (by rw [u8s_length]; omega)
            have HNN : Hid ((u8s x).length = Nat.min x.length (K - p)) := Lib.hid (by rw [u8s_length]; show _ = min _ _; omega)
            have HG2 := Lib.hid hg; have HC2 := Lib.hid hcells2; have HN2 := Lib.hid hn2; have HO2 := Lib.hid ho2; have HL2 := Lib.hid hl2; have HF2 := Lib.hid hf2; have HNE := Lib.hid hne; have HGT := Lib.hid hgt
            clear hg hcells hcells2 hn2 ho2 hl2 hf2 hne hgt c2 hS1
            go_wp2_with (refine wpList_copy_own rfl (.tmp 55) (.tmp 56) 34 34 rfl 5 Tryz.underlying34 (by kernel_rfl) g p (K - p) (c - p) ad x.length xc rfl rfl cur 5 HG2.out (u8s x) HNN.out HC2.out HFI.out (u8s_one x) ?_)
            go_ret
            rw [HRES.out]
            refine ⟨rfl, ?_⟩
            have hgb : b ≠ g := fun e => HNE.out (by rw [e]; rfl)
            have hfr : Fr (fun y => y = g) w2 (w2.setRow g (cur.toList.take p ++ (u8s x ++ cur.toList.drop (p + (u8s x).length))).toArray) := ⟨rfl, rfl, rfl, by simp [World.setRow], fun y _ hy => setRow_other w2 g y _ hy⟩
            have hdl : (wrData nd.data (Int.toNat p) x).length = K := by
              unfold wrData
              rw [Int.toNat_natCast, ← HK.out, length_splice _ _ _ (by rw [sizedN_length]; omega), sizedN_length]
            refine HT.out.dataset HFT.out HB1.out HM.out HP.out (v := .slice (some ⟨g, 0, none⟩) K c) ((setRow_other w2 g b _ hgb).trans HN2.out) ?_ (fun c' hc' => HL2.out.elim (fun e => .inl (by rw [← e]; exact hc')) fun ⟨c2, e, h⟩ => .inr (by rw [hc'] at e; injection e with e; omega)) (HF2.out.trans' hfr fun y hy e => ?_)
            · rw [hdl]
              refine ⟨by rw [u8s_length, hdl]; omega, .inr ⟨g, c, _, rfl, Nat.zero_le _, setRow_heap w2 g cur _ _ _ HG2.out, hgc, hgm, ?_, ?_⟩⟩
              · rw [List.size_toArray, List.length_append, List.length_append, List.length_take, List.length_drop, u8s_length, Array.length_toList]
                omega
              · have h0 : (cur.toList.take p ++ (u8s x ++ cur.toList.drop (p + (u8s x).length))).toArray.toList = splice cur.toList p (u8s x) := rfl
                rw [h0, Nat.mul_one, splice_take _ _ _ _ (by rw [u8s_length]; omega), show cur.toList.take K = u8s (sizedN nd.data K) by have := HGT.out; rw [Nat.mul_one] at this; exact this, u8s_splice]
                unfold wrData
                rw [Int.toNat_natCast, ← HK.out]
            · subst e
              rcases HL2.out with e2 | ⟨c', e2, hc'⟩
              · exact .inr (by rw [← e2]; rfl)
              · have e2 : some y = some c' := e2
                injection e2 with e2
                omega
end
end Go.Proofs.YtoofcnehoffllaaGreat

namespace Go.Proofs.YtoofcnehoffllaaGreat
open Go.RowKit

section
variable {w w' : World} {tb nb cap : Nat} {P E : Nat → Option Nat} {V : Nat → Value} {M : TM}
theorem srcCut {w : World} {B n c K : Nat} {a : Option Addr} {xs : List Value} (h : w.ownsRow B 5 1 (.slice a n c) n xs) (h1 : ∀ u ∈ xs, u.oneCell' = true) (hK : K ≤ n) : SrcG 1 w (.slice a K c) K (xs.take K) :=
  SrcG.of_own (own_cut h hK) fun u hu => h1 u (List.mem_of_mem_take hu)
theorem take_sized {d : List Int} {k : Nat} : sizedN (d.take (min k d.length)) k = sizedN d k := by
  unfold sizedN
  apply List.ext_getElem?
  intro j
  simp only [List.getElem?_take, List.getElem?_append, List.length_take, List.getElem?_replicate]
  grind
set_option maxHeartbeats 2000000 in
set_option maxRecDepth 100000 in
theorem truncate_any {F : Nat → Prop} (hAt : TAt w tb cap F M) (hG : TG M cap) (s : ByteArray) (hs : s.size ≤ 1000000) (k : Int) (hk : -9223372036854775808 ≤ k ∧ k ≤ 9223372036854775807) :
    Calls Tryz.prog 132 #[.pointer (some ⟨tb, 0, none⟩), .string s, .int .i64 k] w fun e w' => e = .returned (.int .i64 (truncN M s k).1) ∧ TLeft w w' tb cap F (truncN M s k).2 := by
  obtain ⟨nb, P, E, V, h, hFt⟩ := hAt
  have HFT := Lib.hid hFt; have HT := Lib.hid h; have HG := Lib.hid hG
  have hf := file_any h s hs
  rw [fileV_eq] at hf
  have HF := Lib.hid hf
  have HW : Hid (truncN M s k = match fileN M s with
    | .inr c => (c, M)
    | .inl i => if k < 0 then (22, M) else if 38400 < k then (27, M) else (0, setN M i (lkN M i) (sizedN (datN M i) k.toNat))) := Lib.hid rfl
  obtain ⟨a1, a2⟩ := hk
  clear hFt h hG hf hs
  cases hq : fileN M s with
  | inr c =>
    have hc := file_code hq
    have HRES : Hid (truncN M s k = (c, M)) := Lib.hid (by rw [HW.out, hq])
    rw [hq] at HF
    have hc2 : (c != 0) = true := by simp [hc]
    clear hq hc HW
    unfold leadV at HF
    go_enter Tryz.func132, Tryz.ntmps132
    go_wp2_with fail
    refine HF.out.mono ?_
    rintro e w1 ⟨rfl, hb1⟩
    have HLT := Lib.hid (TLeft.same HT.out HFT.out hb1)
    clear hb1 HF
    go_wp2_with fail
    go_ret
    rw [HRES.out]
    exact ⟨rfl, HLT.out⟩
  | inl i =>
    obtain ⟨hlk, hdi⟩ := file_in hq
    have hi := look_isin HT.out hlk
    obtain ⟨nd, hm⟩ := Option.isSome_iff_exists.1 hi
    obtain ⟨b, hp, _⟩ := HT.out.at_ hm
    have HLV : leadV P (.inl i) = .tuple #[.pointer (some ⟨b, 0, none⟩), .int .i64 0] := by show Value.tuple #[nptr (P i), _] = _; rw [hp]; rfl
    have hw2 : truncN M s k = if k < 0 then (22, M) else if 38400 < k then (27, M) else (0, setN M i (lkN M i) (sizedN (datN M i) k.toNat)) := by rw [HW.out, hq]
    have HW2 := Lib.hid hw2
    rw [hq, HLV] at HF
    have HM := Lib.hid hm; have HP := Lib.hid hp
    clear hq hlk hdi hi hm hp HLV hw2 HW
    by_cases h1 : k < 0
    · have HRES : Hid (truncN M s k = (22, M)) := Lib.hid (by rw [HW2.out, if_pos h1])
      clear HW2
      go_enter Tryz.func132, Tryz.ntmps132
      go_wp2_with fail
      refine HF.out.mono ?_
      rintro e w1 ⟨rfl, hb1⟩
      have HLT := Lib.hid (TLeft.same HT.out HFT.out hb1)
      clear hb1 HF
      go_wp2_with fail
      go_ret
      rw [HRES.out]
      exact ⟨rfl, HLT.out⟩
    · by_cases h3 : 38400 < k
      · have HRES : Hid (truncN M s k = (27, M)) := Lib.hid (by rw [HW2.out, if_neg h1, if_pos h3])
        clear HW2
        go_enter Tryz.func132, Tryz.ntmps132
        go_wp2_with fail
        refine HF.out.mono ?_
        rintro e w1 ⟨rfl, hb1⟩
        have HLT := Lib.hid (TLeft.same HT.out HFT.out hb1)
        clear hb1 HF
        go_wp2_with fail
        go_ret
        rw [HRES.out]
        exact ⟨rfl, HLT.out⟩
      · have HRES : Hid (truncN M s k = (0, setN M i (lkN M i) (sizedN (datN M i) k.toNat))) := Lib.hid (by rw [HW2.out, if_neg h1, if_neg h3])
        obtain ⟨p, hpn⟩ : ∃ p : Nat, k = p := ⟨k.toNat, by omega⟩
        subst hpn
        have hdb := HG.out.byt i
        rw [datN_of HM.out] at hdb HRES
        clear HW2
        go_enter Tryz.func132, Tryz.ntmps132
        go_wp2_with fail
        refine HF.out.mono ?_
        rintro e w1 ⟨rfl, hb1⟩
        have hn1 := (HT.out.below hb1).node i b nd HP.out HM.out
        have hd1 := (HT.out.below hb1).data i nd HM.out
        have c2 := cell_blk_some hn1 (i := 2) rfl
        have g2 := free_blk (i := 2) hn1
        have HB1 := Lib.hid hb1; have HN1 := Lib.hid hn1; have HD1 := Lib.hid hd1
        have d1 : (nd.data.length : Int) ≤ 38400 := by omega
        obtain ⟨K, hK⟩ : ∃ K, K = min p nd.data.length := ⟨_, rfl⟩
        have HK := Lib.hid hK
        have kk : K ≤ 38400 := by omega
        have kd : K ≤ nd.data.length := by omega
        have m0 : (0 : Int) ≤ (K : Int) := by omega
        have hgr : ∀ (v2 : Value) (w3 : World), w3.heap[b]? = some (.cells #[.int .i64 i, .map (E i), v2, .int .i64 nd.links] 71 (0, 0)) → w3.ownsRow 0 5 1 v2 K ((u8s nd.data).take K) →
            Calls Tryz.prog 136 #[.pointer (some ⟨b, 0, none⟩), .int .i64 p] w3 fun e w' => e = .returned (.tuple #[]) ∧ ∃ v', w'.heap[b]? = some (.cells #[.int .i64 i, .map (E i), v', .int .i64 nd.links] 71 (0, 0)) ∧
              w'.ownsRow 0 5 1 v' (sizedN nd.data p).length (u8s (sizedN nd.data p)) ∧ (v'.ownBlock = v2.ownBlock ∨ ∃ c, v'.ownBlock = some c ∧ w3.heap.size ≤ c) ∧ Fr (fun x => x = b ∨ v2.ownBlock = some x) w3 w' := fun v2 w3 ha hb => by
          have hz : (nd.data.take K).length = K := by rw [List.length_take]; omega
          have := grow_any (k := p) (d := nd.data.take K) ha (by rw [hz, u8s_take]; exact hb) (by omega) (by omega)
          rw [show sizedN (nd.data.take K) p = sizedN nd.data p by rw [hK]; exact take_sized] at this
          exact this
        have HGR := Lib.hid hgr
        rcases hd1.2 with ⟨hva, h0⟩ | ⟨g, c, cur, hva, -, hg, hgc, hgm, hgs, hgt⟩
        · rw [hva] at c2
          have hKi : min ((p : Nat) : Int) 0 = 0 := by omega
          obtain rfl : K = 0 := by omega
          have HCL : Hid (∀ w', Below w1.heap.size w1 w' → Calls Tryz.prog 33 #[.slice none 0 0] w' fun e w'' => ∃ v', e = .returned v' ∧ w''.ownsRow w'.heap.size 5 1 v' 0 ((u8s nd.data).take 0) ∧ Below w'.heap.size w' w'') := Lib.hid fun w' _ => cloneB_any (xs := []) ⟨none, 0, rfl, rfl, (fun u hu => by cases hu), fun h => by cases h⟩ (by omega)
          clear hb1 HF hn1 hd1 hdb hK hva h0 kk kd hgr
          go_wp2_with fail
          go_region_law
            (go_simp; go_at_call 33
             refine (HCL.out w1.drew (below_drewN (Below.refl _ w1) 1)).mono ?_
             rintro e w2 ⟨v2, rfl, hown2, hb2⟩
             have hb2 : Below w1.heap.size w1 w2 := below_call (below_drewN (Below.refl _ w1) 1) hb2 (Nat.le_refl _)
             have hn2 := (hb2.block b (blk_lt HN1.out)).trans HN1.out
             have c3 := cell_blk_some hn2 (i := 2) rfl
             have g3 := free_blk (i := 2) hn2
             obtain ⟨va2, vc2, rfl⟩ := own_shape hown2
             have HB2 := Lib.hid hb2; have HN2 := Lib.hid hn2; have HO2 := Lib.hid hown2
             clear hb2 hn2 hown2
             dsimp only)
          all_goals
            have hn3 := blk_set (i := 2) HN2.out (.slice va2 0 vc2)
            have hf3 : Fr (fun x => x = b) w2 (w2.setCell ⟨b, 2, none⟩ (.slice va2 0 vc2)) := (Fr.refl (fun x => x = b) w2).setCell ⟨b, 2, none⟩ rfl _
            have ho3 := own_frame HO2.out hf3 fun g' hg' e => by
              have := (World.ownsRow.lt HO2.out g' hg').1
              have h9 : w1.heap.size ≤ g' := this
              have := blk_lt HN1.out
              omega
            have HG3 := Lib.hid (HGR.out _ _ hn3 (own_mono ho3 (Nat.zero_le _)))
            have HN3 := Lib.hid hn3; have HF3 := Lib.hid hf3
            clear hn3 hf3 ho3
            go_wp2_with fail
            refine HG3.out.mono ?_
            rintro e w4 ⟨rfl, v4, hn4, ho4, hl4, hf4⟩
            have HN4 := Lib.hid hn4; have HO4 := Lib.hid ho4; have HL4 := Lib.hid hl4; have HF4 := Lib.hid hf4
            clear hn4 ho4 hl4 hf4 HG3 HGR HCL
            go_wp2_with fail
            go_ret
            rw [HRES.out]
            have hv2 : ∀ g', (Value.slice va2 0 vc2).ownBlock = some g' → w1.heap.size ≤ g' := fun g' hg' => (World.ownsRow.lt HO2.out g' hg').1
            have hsz : w1.heap.size ≤ (w2.setCell ⟨b, 2, none⟩ (.slice va2 0 vc2)).heap.size := by rw [size_set]; exact HB2.out.size
            refine ⟨rfl, HT.out.dataset HFT.out HB1.out HM.out HP.out HN4.out HO4.out ?_ ((((Fr.below HB2.out).trans (HF3.out.tell fun x hx => .inl hx)).trans' HF4.out fun y hy e => ?_))⟩
            · intro c' h'
              rcases HL4.out with e | ⟨c2, e, hc'⟩
              · exact .inr (hv2 c' (by rw [← e]; exact h'))
              · rw [h'] at e
                injection e with e
                exact .inr (by omega)
            · rcases e with e | e
              · exact .inl e
              · exact absurd (hv2 y e) (by omega)
        · rw [hva] at c2
          have hKi : min ((p : Nat) : Int) ((nd.data.length : Nat) : Int) = (K : Int) := by omega
          have m1 : (K : Int) ≤ (c : Int) := by omega
          have HCL : Hid (∀ w', Below w1.heap.size w1 w' → Calls Tryz.prog 33 #[.slice (some ⟨g, 0, none⟩) K c] w' fun e w'' => ∃ v', e = .returned v' ∧ w''.ownsRow w'.heap.size 5 1 v' K ((u8s nd.data).take K) ∧ Below w'.heap.size w' w'') := Lib.hid fun w' hw' => cloneB_any ((srcCut (by rw [← hva]; exact hd1) (u8s_one _) kd).below hw') (by omega)
          clear hb1 HF hn1 hd1 hdb hK hva hg hgc hgm hgs hgt kk kd hgr
          go_wp2_with fail
          go_region_law
            (go_simp; go_at_call 33
             refine (HCL.out w1.drew (below_drewN (Below.refl _ w1) 1)).mono ?_
             rintro e w2 ⟨v2, rfl, hown2, hb2⟩
             have hb2 : Below w1.heap.size w1 w2 := below_call (below_drewN (Below.refl _ w1) 1) hb2 (Nat.le_refl _)
             have hn2 := (hb2.block b (blk_lt HN1.out)).trans HN1.out
             have c3 := cell_blk_some hn2 (i := 2) rfl
             have g3 := free_blk (i := 2) hn2
             obtain ⟨va2, vc2, rfl⟩ := own_shape hown2
             have HB2 := Lib.hid hb2; have HN2 := Lib.hid hn2; have HO2 := Lib.hid hown2
             clear hb2 hn2 hown2
             dsimp only)
          all_goals
            have hn3 := blk_set (i := 2) HN2.out (.slice va2 K vc2)
            have hf3 : Fr (fun x => x = b) w2 (w2.setCell ⟨b, 2, none⟩ (.slice va2 K vc2)) := (Fr.refl (fun x => x = b) w2).setCell ⟨b, 2, none⟩ rfl _
            have ho3 := own_frame HO2.out hf3 fun g' hg' e => by
              have := (World.ownsRow.lt HO2.out g' hg').1
              have h9 : w1.heap.size ≤ g' := this
              have := blk_lt HN1.out
              omega
            have HG3 := Lib.hid (HGR.out _ _ hn3 (own_mono ho3 (Nat.zero_le _)))
            have HN3 := Lib.hid hn3; have HF3 := Lib.hid hf3
            clear hn3 hf3 ho3
            go_wp2_with fail
            refine HG3.out.mono ?_
            rintro e w4 ⟨rfl, v4, hn4, ho4, hl4, hf4⟩
            have HN4 := Lib.hid hn4; have HO4 := Lib.hid ho4; have HL4 := Lib.hid hl4; have HF4 := Lib.hid hf4
            clear hn4 ho4 hl4 hf4 HG3 HGR HCL
            go_wp2_with fail
            go_ret
            rw [HRES.out]
            have hv2 : ∀ g', (Value.slice va2 K vc2).ownBlock = some g' → w1.heap.size ≤ g' := fun g' hg' => (World.ownsRow.lt HO2.out g' hg').1
            have hsz : w1.heap.size ≤ (w2.setCell ⟨b, 2, none⟩ (.slice va2 K vc2)).heap.size := by rw [size_set]; exact HB2.out.size
            refine ⟨rfl, HT.out.dataset HFT.out HB1.out HM.out HP.out HN4.out HO4.out ?_ ((((Fr.below HB2.out).trans (HF3.out.tell fun x hx => .inl hx)).trans' HF4.out fun y hy e => ?_))⟩
            · intro c' h'
              rcases HL4.out with e | ⟨c2, e, hc'⟩
              · exact .inr (hv2 c' (by rw [← e]; exact h'))
              · rw [h'] at e
                injection e with e
                exact .inr (by omega)
            · rcases e with e | e
              · exact .inl e
              · exact absurd (hv2 y e) (by omega)
end
end Go.Proofs.YtoofcnehoffllaaGreat

namespace Go.Proofs.YtoofcnehoffllaaGreat
open Go.RowKit

/-- What Read answers. -/
def readN (M : TM) (s : ByteArray) (at_ n : Int) : List Int × Int := match fileN M s with
  | .inr c => ([], c)
  | .inl i => if at_ < 0 ∨ n < 0 ∨ 4096 < n then ([], 22) else (((datN M i).drop at_.toNat).take n.toNat, 0)
/-- What Stat answers. -/
def statA (i k l z : Int) : Value := .agg #[.int .i64 i, .int .i64 k, .int .i64 l, .int .i64 z]
def statN (M : TM) (s : ByteArray) : (Int × Int × Int × Int) × Int := match lookN M s with
  | .inr c => ((0, 0, 0, 0), c)
  | .inl i => (((i : Int), (if isDir M i then 2 else 1), lkN M i, ((datN M i).length : Int)), 0)
def statV (x : Int × Int × Int × Int) : Value := statA x.1 x.2.1 x.2.2.1 x.2.2.2
section
variable {w w' : World} {tb nb cap : Nat} {P E : Nat → Option Nat} {V : Nat → Value} {M : TM}
theorem srcSub {w : World} {B n c C K f g : Nat} {a : Option Addr} {xs : List Value} (h : w.ownsRow B 5 1 (.slice (some ⟨g, 0, none⟩) n c) n xs) (h1 : ∀ u ∈ xs, u.oneCell' = true) (hK : f + K ≤ n) (ha : 0 < K → a = some ⟨g, f, none⟩) : SrcG 1 w (.slice a K C) K ((xs.drop f).take K) := by
  have hl : xs.length = n * 1 := h.1
  refine ⟨a, C, rfl, by rw [List.length_take, List.length_drop]; omega, fun u hu => h1 u (List.mem_of_mem_drop (List.mem_of_mem_take hu)), fun hp => ⟨_, ha hp, fun j u hj => ?_⟩⟩
  rw [List.getElem?_take] at hj
  split at hj
  · rw [List.getElem?_drop] at hj
    have := h.cells (g := g) rfl (f + j) u hj
    rw [Addr.add_lit, Nat.zero_add] at this
    rw [Addr.add_lit]
    exact this
  · cases hj
theorem drop_take {l : List Int} {p n f K : Nat} (hf : f = min p l.length) (hK : K = min (f + n) l.length - f) : (l.drop f).take K = (l.drop p).take n := by
  apply List.ext_getElem?
  intro j
  simp only [List.getElem?_take, List.getElem?_drop]
  grind
set_option maxHeartbeats 4000000 in
set_option maxRecDepth 100000 in
theorem read_any {F : Nat → Prop} (hAt : TAt w tb cap F M) (hG : TG M cap) (s : ByteArray) (hs : s.size ≤ 1000000) (at_ n : Int) (hat : -9223372036854775808 ≤ at_ ∧ at_ ≤ 9223372036854775807) (hn : -9223372036854775808 ≤ n ∧ n ≤ 9223372036854775807) :
    Calls Tryz.prog 12 #[.pointer (some ⟨tb, 0, none⟩), .string s, .int .i64 at_, .int .i64 n] w fun e w' => ∃ v, e = .returned (.tuple #[v, .int .i64 (readN M s at_ n).2]) ∧ w'.ownsRow w.heap.size 5 1 v (readN M s at_ n).1.length (u8s (readN M s at_ n).1) ∧ Below w.heap.size w w' := by
  obtain ⟨nb, P, E, V, h, hFt⟩ := hAt
  have HT := Lib.hid h; have HG := Lib.hid hG
  have hf := file_any h s hs
  rw [fileV_eq] at hf
  have HF := Lib.hid hf
  have HW : Hid (readN M s at_ n = match fileN M s with
    | .inr c => ([], c)
    | .inl i => if at_ < 0 ∨ n < 0 ∨ 4096 < n then ([], 22) else (((datN M i).drop at_.toNat).take n.toNat, 0)) := Lib.hid rfl
  obtain ⟨a1, a2⟩ := hat
  obtain ⟨b1, b2⟩ := hn
  clear hFt h hG hf hs
  have hnil : ∀ (w' : World) (c : Int), readN M s at_ n = ([], c) → w'.ownsRow w.heap.size 5 1 (.slice none 0 0) (readN M s at_ n).1.length (u8s (readN M s at_ n).1) := fun w' c hr => by rw [hr]; exact ⟨rfl, .inl ⟨rfl, rfl⟩⟩
  have HNIL := Lib.hid hnil
  clear hnil
  cases hq : fileN M s with
  | inr c =>
    have hc := file_code hq
    have HRES : Hid (readN M s at_ n = ([], c)) := Lib.hid (by rw [HW.out, hq])
    rw [hq] at HF
    have hc2 : (c != 0) = true := by simp [hc]
    clear hq hc HW
    unfold leadV at HF
    go_enter Tryz.func12, Tryz.ntmps12
    go_wp2_with fail
    refine HF.out.mono ?_
    rintro e w1 ⟨rfl, hb1⟩
    have HB1 := Lib.hid hb1
    clear hb1 HF
    go_wp2_with fail
    go_ret2
    exact ⟨.slice none 0 0, by rw [HRES.out]; rfl, HNIL.out _ _ HRES.out, HB1.out⟩
  | inl i =>
    obtain ⟨hlk, hdi⟩ := file_in hq
    have hi := look_isin HT.out hlk
    obtain ⟨nd, hm⟩ := Option.isSome_iff_exists.1 hi
    obtain ⟨b, hp, _⟩ := HT.out.at_ hm
    have HLV : leadV P (.inl i) = .tuple #[.pointer (some ⟨b, 0, none⟩), .int .i64 0] := by show Value.tuple #[nptr (P i), _] = _; rw [hp]; rfl
    have hw2 : readN M s at_ n = if at_ < 0 ∨ n < 0 ∨ 4096 < n then ([], 22) else (((datN M i).drop at_.toNat).take n.toNat, 0) := by rw [HW.out, hq]
    have HW2 := Lib.hid hw2
    rw [hq, HLV] at HF
    have HM := Lib.hid hm; have HP := Lib.hid hp
    clear hq hlk hdi hi hm hp HLV hw2 HW
    by_cases hbad : at_ < 0 ∨ n < 0 ∨ 4096 < n
    · have HRES : Hid (readN M s at_ n = ([], 22)) := Lib.hid (by rw [HW2.out, if_pos hbad])
      clear HW2
      by_cases h1 : at_ < 0
      · clear hbad
        go_enter Tryz.func12, Tryz.ntmps12
        go_wp2_with fail
        refine HF.out.mono ?_
        rintro e w1 ⟨rfl, hb1⟩
        have HB1 := Lib.hid hb1
        clear hb1 HF
        go_wp2_with fail
        go_ret2
        exact ⟨.slice none 0 0, by rw [HRES.out]; rfl, HNIL.out _ _ HRES.out, HB1.out⟩
      · have e1 : decide (at_ < 0) = false := dec_false h1
        by_cases h2 : n < 0
        · clear hbad
          go_enter Tryz.func12, Tryz.ntmps12
          go_wp2_with fail
          refine HF.out.mono ?_
          rintro e w1 ⟨rfl, hb1⟩
          have HB1 := Lib.hid hb1
          clear hb1 HF
          go_wp2_with fail
          go_ret2
          exact ⟨.slice none 0 0, by rw [HRES.out]; rfl, HNIL.out _ _ HRES.out, HB1.out⟩
        · have e2 : decide (n < 0) = false := dec_false h2
          have h3 : 4096 < n := by omega
          have e3 : decide (4096 < n) = true := dec_true h3
          clear hbad
          go_enter Tryz.func12, Tryz.ntmps12
          go_wp2_with fail
          refine HF.out.mono ?_
          rintro e w1 ⟨rfl, hb1⟩
          have HB1 := Lib.hid hb1
          clear hb1 HF
          go_wp2_with fail
          go_ret2
          exact ⟨.slice none 0 0, by rw [HRES.out]; rfl, HNIL.out _ _ HRES.out, HB1.out⟩
    · have hres : readN M s at_ n = (((datN M i).drop at_.toNat).take n.toNat, 0) := by rw [HW2.out, if_neg hbad]
      have e1 : decide (at_ < 0) = false := dec_false (by omega)
      have e2 : decide (n < 0) = false := dec_false (by omega)
      have e3 : decide (4096 < n) = false := dec_false (by omega)
      obtain ⟨p, hpn⟩ : ∃ p : Nat, at_ = p := ⟨at_.toNat, by omega⟩
      obtain ⟨q, hqn⟩ : ∃ q : Nat, n = q := ⟨n.toNat, by omega⟩
      have q4 : (q : Int) ≤ 4096 := by omega
      subst hpn hqn
      have hdb := HG.out.byt i
      rw [datN_of HM.out] at hdb hres
      rw [Int.toNat_natCast, Int.toNat_natCast] at hres
      clear HW2 hbad
      go_enter Tryz.func12, Tryz.ntmps12
      go_wp2_with fail
      refine HF.out.mono ?_
      rintro e w1 ⟨rfl, hb1⟩
      have hn1 := (HT.out.below hb1).node i b nd HP.out HM.out
      have hd1 := (HT.out.below hb1).data i nd HM.out
      have c2 := cell_blk_some hn1 (i := 2) rfl
      have d1 : (nd.data.length : Int) ≤ 38400 := by omega
      obtain ⟨f, hf⟩ : ∃ f, f = min p nd.data.length := ⟨_, rfl⟩
      obtain ⟨t, ht⟩ : ∃ t, t = min (f + q) nd.data.length := ⟨_, rfl⟩
      rw [← drop_take hf rfl, ← ht] at hres
      have HRES := Lib.hid hres
      have HB1 := Lib.hid hb1
      have m0 : (0 : Int) ≤ (f : Int) := by omega
      have m1 : (f : Int) ≤ (t : Int) := by omega
      have hft : f ≤ t := by omega
      have htl : t ≤ nd.data.length := by omega
      have hw1 : IntKind.i64.wrap ((f : Int) + (q : Int)) = (f : Int) + (q : Int) := IntWalk.i64_in _ (by omega)
      have hsz : ((u8s nd.data).drop f).take (t - f) = u8s ((nd.data.drop f).take (t - f)) := by unfold u8s; rw [List.map_take, List.map_drop]
      have hlen : ((nd.data.drop f).take (t - f)).length = t - f := by rw [List.length_take, List.length_drop]; omega
      have HSZ := Lib.hid hsz; have HLEN := Lib.hid hlen
      rcases hd1.2 with ⟨hva, h0⟩ | ⟨g, c, cur, hva, -, hg, hgc, hgm, hgs, hgt⟩
      · rw [hva] at c2
        have hKi : min ((p : Nat) : Int) 0 = 0 := by omega
        obtain rfl : f = 0 := by omega
        obtain rfl : t = 0 := by omega
        have hKj : min (q : Int) 0 = 0 := by omega
        have hw0 : IntKind.i64.wrap (q : Int) = (q : Int) := IntWalk.i64_in _ (by omega)
        have HCL : Hid (Calls Tryz.prog 33 #[.slice none 0 0] w1.drew fun e w'' => ∃ v', e = .returned v' ∧ w''.ownsRow w1.drew.heap.size 5 1 v' 0 [] ∧ Below w1.drew.heap.size w1.drew w'') := Lib.hid (cloneB_any (xs := []) ⟨none, 0, rfl, rfl, (fun u hu => by cases hu), fun h => by cases h⟩ (by omega))
        clear hb1 HF hn1 hd1 hdb hva h0 hres hf ht hft htl hsz hlen
        go_wp2_with fail
        go_region_law
          (go_simp; go_at_call 33
           refine HCL.out.mono ?_
           rintro e w2 ⟨v2, rfl, hown2, hb2⟩
           have hb2 : Below w1.heap.size w1 w2 := below_call (below_drewN (Below.refl _ w1) 1) hb2 (Nat.le_refl _)
           obtain ⟨va2, vc2, rfl⟩ := own_shape hown2
           have HB2 := Lib.hid hb2; have HO2 := Lib.hid hown2
           clear hb2 hown2
           dsimp only)
        all_goals
          go_wp2_with fail
          go_ret2
          refine ⟨.slice va2 0 vc2, by rw [HRES.out]; rfl, ?_, below_call HB1.out HB2.out (Nat.le_refl _)⟩
          rw [HRES.out]
          exact own_mono HO2.out HB1.out.size
      · rw [hva] at c2
        have hKi : min ((p : Nat) : Int) ((nd.data.length : Nat) : Int) = (f : Int) := by omega
        have hKj : min ((f : Int) + (q : Int)) ((nd.data.length : Nat) : Int) = (t : Int) := by omega
        have m2 : (t : Int) ≤ (c : Int) := by omega
        have hka : t - f ≤ 1000000 := by omega
        by_cases hcf : c = f
        · have HR0 : Hid (readN M s p q = ([], 0)) := Lib.hid (by rw [hres, show t - f = 0 by omega]; rfl)
          obtain rfl : t = f := by omega
          obtain rfl : c = t := by omega
          have HCL : Hid (Calls Tryz.prog 33 #[.slice (some ⟨g, 0, none⟩) 0 0] w1.drew fun e w'' => ∃ v', e = .returned v' ∧ w''.ownsRow w1.drew.heap.size 5 1 v' 0 [] ∧ Below w1.drew.heap.size w1.drew w'') := Lib.hid (cloneB_any (xs := []) ⟨_, 0, rfl, rfl, (fun u hu => by cases hu), fun h => by cases h⟩ (by omega))
          clear hb1 HF hn1 hd1 hdb hva hg hgc hgm hgs hgt hres hf ht hft htl hsz hlen HRES
          go_wp2_with fail
          go_region_law
            (go_simp; go_at_call 33
             refine HCL.out.mono ?_
             rintro e w2 ⟨v2, rfl, hown2, hb2⟩
             have hb2 : Below w1.heap.size w1 w2 := below_call (below_drewN (Below.refl _ w1) 1) hb2 (Nat.le_refl _)
             obtain ⟨va2, vc2, rfl⟩ := own_shape hown2
             have HB2 := Lib.hid hb2; have HO2 := Lib.hid hown2
             clear hb2 hown2
             dsimp only)
          all_goals
            go_wp2_with fail
            go_ret2
            refine ⟨.slice va2 0 vc2, by rw [HR0.out]; rfl, ?_, below_call HB1.out HB2.out (Nat.le_refl _)⟩
            rw [HR0.out]
            exact own_mono HO2.out HB1.out.size
        · have HCL : Hid (Calls Tryz.prog 33 #[.slice (some ⟨g, f, none⟩) (t - f) (c - f)] w1.drew fun e w'' => ∃ v', e = .returned v' ∧ w''.ownsRow w1.drew.heap.size 5 1 v' (t - f) (((u8s nd.data).drop f).take (t - f)) ∧ Below w1.drew.heap.size w1.drew w'') := Lib.hid (cloneB_any ((srcSub (g := g) (f := f) (by rw [← hva]; exact hd1) (u8s_one _) (by omega) (fun _ => rfl)).below (below_drewN (Below.refl _ w1) 1)) hka)
          clear hb1 HF hn1 hd1 hdb hva hg hgc hgm hgs hgt hres hf ht hft htl hsz hlen
          go_wp2_with fail
          go_region_law
            (go_simp; go_at_call 33
             refine HCL.out.mono ?_
             rintro e w2 ⟨v2, rfl, hown2, hb2⟩
             have hb2 : Below w1.heap.size w1 w2 := below_call (below_drewN (Below.refl _ w1) 1) hb2 (Nat.le_refl _)
             obtain ⟨va2, vc2, rfl⟩ := own_shape hown2
             have HB2 := Lib.hid hb2; have HO2 := Lib.hid hown2
             clear hb2 hown2
             dsimp only)
          all_goals
            go_wp2_with fail
            go_ret2
            refine ⟨.slice va2 (t - f) vc2, by rw [HRES.out]; rfl, ?_, below_call HB1.out HB2.out (Nat.le_refl _)⟩
            rw [HRES.out]
            show w2.ownsRow w.heap.size 5 1 _ ((nd.data.drop f).take (t - f)).length (u8s ((nd.data.drop f).take (t - f)))
            rw [HLEN.out, ← HSZ.out]
            exact own_mono HO2.out HB1.out.size
end
end Go.Proofs.YtoofcnehoffllaaGreat
