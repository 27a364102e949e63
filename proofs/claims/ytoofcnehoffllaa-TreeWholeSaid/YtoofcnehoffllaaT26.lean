/- Walk of Walk's closure: the walk. -/
import Derived.Test.YtoofcnehoffllaaT25
import Derived.Test.YtoofcnehoffllaaT6
namespace Go.Proofs.Ytoofcnehoffllaa
open Go.RowKit

theorem own_off' {w : World} {B n sz b : Nat} {e : TypeId} {v : Value} {xs : List Value} {o : Obj} (h : w.ownsRow B e sz v n xs) (hb : w.heap[b]? = some o) (ho : ∀ c z, o ≠ .cells c e z) : v.ownBlock ≠ some b := fun hv => by
  rcases h.2 with hh | ⟨g, cap, cur, rfl, _, hg, _⟩
  · rw [hh.1] at hv; cases hv
  · injection hv with hv
    have hv : g = b := hv
    rw [hv, hb] at hg
    injection hg with hg
    exact ho _ _ hg
theorem RngAt.obj {α : Type} {ke : α → Value} {w : World} {mb ri n : Nat} {f : α → Option Value} {done : List α} (h : RngAt ke w ri mb f done n) : ∃ a b c d, w.heap[ri]? = some (.mapIter a b c d) := by
  obtain ⟨es, clock, seen, hr, _⟩ := h
  exact ⟨_, _, _, _, hr⟩
section
variable {tb nb cap : Nat} {P E : Nat → Option Nat} {V : Nat → Value} {M : TM} {w0 : World} {Z ob vb : Nat}
/-- What a call of the closure leaves as it was. -/
def VFr (ob : Nat) (w : World) (v : Value) (w' : World) (v' : Value) : Prop := Fr (fun x => x = ob ∨ v.ownBlock = some x) w w' ∧ ∀ c, v'.ownBlock = some c → v.ownBlock = some c ∨ w.heap.size ≤ c
theorem VFr.refl (w : World) (v : Value) : VFr ob w v w v := ⟨Fr.refl _ _, fun _ h => .inl h⟩
theorem VFr.trans {w w1 w2 : World} {v v1 v2 : Value} (h : VFr ob w v w1 v1) (k : VFr ob w1 v1 w2 v2) : VFr ob w v w2 v2 := by
  refine ⟨h.1.trans' k.1 fun x hx hs => ?_, fun c hc => ?_⟩
  · rcases hs with e | e
    · exact .inl e
    · rcases h.2 x e with e | e
      · exact .inr e
      · omega
  · rcases k.2 c hc with e | e
    · exact h.2 c e
    · exact .inr (Nat.le_trans h.1.size e)
theorem VFr.rng {w w' : World} {v v' : Value} {ri n : Nat} {B len : Nat} {xs : List Value} {α : Type} {ke : α → Value} {mb : Nat} {f : α → Option Value} {done : List α} (h : VFr ob w v w' v') (hr : RngAt ke w ri mb f done n) (hv : w.ownsRow B 9 1 v len xs) {c : Array Value} {t : TypeId} {z : Nat × Nat} (hob : w.heap[ob]? = some (.cells c t z)) : RngAt ke w' ri mb f done n := by
  obtain ⟨a, b, c', d, hri⟩ := hr.obj
  refine hr.fr h.1 (fun e => ?_) (fun e => ?_)
  · rcases e with e | e
    · rw [← e, hri] at hob; injection hob with hob; cases hob
    · exact own_off' hv hri (fun _ _ e => by cases e) e
  · obtain ⟨es, clock, seen, _, hm, _⟩ := hr
    rcases e with e | e
    · rw [← e, hm] at hob; injection hob with hob; cases hob
    · exact own_off' hv hm (fun _ _ e => by cases e) e
/-- One text more. -/
theorem VSt.grow {w w2 w3 : World} {v v2 : Value} {LO : List (List ByteArray)} {l : List ByteArray} (h : VSt w0 Z ob vb M w v LO) (hZ : Z = w0.heap.size) (hov : ob ≠ vb) (hob : Z ≤ ob) {o : Obj} (ho : w2.ownsRow Z 9 1 v2 (LO.length + 1) ((LO.map (pathAt M)).map Value.string ++ [.string (pathAt M l)]))
    (hf : Fr (fun x => v.ownBlock = some x) (w.alloc o) w2) (hv : v2.ownBlock = v.ownBlock ∨ v2.ownBlock = some (w.heap.size + 1)) (h3 : w3 = w2.setCell ⟨ob, 0, none⟩ v2) (hl : l ≠ [] ∧ (goE (entN M) 2 l).isSome = true) (hn : l ∉ LO) :
    VSt w0 Z ob vb M w3 v2 (LO ++ [l]) ∧ VFr ob w v w3 v2 := by
  have hof : v.ownBlock ≠ some ob := own_off h.own h.out (by decide)
  have hvf : v.ownBlock ≠ some vb := own_off h.own h.vis (by decide)
  have hw1 : Fr (fun x => v.ownBlock = some x) w w2 := ((Fr.refl _ w).alloc o).trans hf
  have ho2 := (hw1.block ob (blk_lt h.out) hof).trans h.out
  have hv2 := (hw1.block vb (blk_lt h.vis) hvf).trans h.vis
  have hsz := hw1.size
  have hvo : ∀ c, v2.ownBlock = some c → v.ownBlock = some c ∨ w.heap.size ≤ c := fun c hc => by
    rcases hv with e | e
    · exact .inl (by rw [← e]; exact hc)
    · rw [hc] at e
      injection e with e
      exact .inr (by omega)
  have hof2 : v2.ownBlock ≠ some ob := own_off ho ho2 (by decide)
  have hfr3 : Fr (fun x => x = ob) w2 w3 := by rw [h3]; exact (Fr.refl (fun x => x = ob) w2).setCell ⟨ob, 0, none⟩ rfl _
  have hfin : Fr (fun x => x = ob ∨ v.ownBlock = some x) w w3 := (hw1.tell fun x hx => .inr hx).trans (hfr3.tell fun x hx => .inl hx)
  have hbz : Z ≤ w.heap.size := by rw [hZ]; exact Nat.le_trans (by omega) h.bel.size
  refine ⟨⟨h.bel.trans (hfin.toBelow hbz fun x hx => ?_), ?_, ?_, ?_, ?_, fun m hm => ?_⟩, hfin, hvo⟩
  · rcases hx with e | e
    · rw [e]; exact hob
    · exact (World.ownsRow.lt h.own x e).1
  · rw [h3]; exact blk_set (i := 0) ho2 v2
  · exact (hfr3.block vb (blk_lt hv2) (fun e => hov e.symm)).trans hv2
  · rw [List.length_append, List.length_singleton, List.map_append, List.map_append]
    exact own_frame ho hfr3 fun g hg e => hof2 (by rw [← e]; exact hg)
  · rw [List.nodup_append]
    exact ⟨h.nod, by simp, fun a ha b hb e => hn (by rw [List.mem_singleton] at hb; rw [← hb, ← e]; exact ha)⟩
  · rcases List.mem_append.1 hm with hm | hm
    · exact h.ok m hm
    · rw [List.mem_singleton.1 hm]; exact hl
theorem VSt.cells2 {w w2 : World} {v : Value} {LO : List (List ByteArray)} {o : Obj} (h : VSt w0 Z ob vb M w v LO) (hf : Fr (fun x => v.ownBlock = some x) (w.alloc o) w2) : w2.heap[ob]? = some (.cells #[v] 34 (0, 0)) :=
  ((((Fr.refl _ w).alloc o).trans hf).block ob (blk_lt h.out) (own_off h.own h.out (by decide))).trans h.out
theorem VFr.iter {w w1 w2 : World} {v v1 : Value} {ri : Nat} (h : VFr ob w v w1 v1) (k : Fr (fun x => x = ri) w1 w2) (hr : w.heap.size ≤ ri) : VFr ob w v w2 v1 :=
  ⟨h.1.trans' k fun x hx e => by omega, h.2⟩
theorem VSt.iter {w w2 : World} {v : Value} {LO : List (List ByteArray)} {ri : Nat} (h : VSt w0 Z ob vb M w v LO) (hZ : Z = w0.heap.size) (k : Fr (fun x => x = ri) w w2) (hr : Z ≤ ri) (h1 : ri ≠ ob) (h2 : ri ≠ vb) (h3 : v.ownBlock ≠ some ri) : VSt w0 Z ob vb M w2 v LO :=
  ⟨h.bel.trans (k.toBelow (by rw [hZ]; exact Nat.le_trans (by omega) h.bel.size) fun x hx => by rw [hx]; exact hr), (k.block ob (blk_lt h.out) (fun e => h1 e.symm)).trans h.out, (k.block vb (blk_lt h.vis) (fun e => h2 e.symm)).trans h.vis, own_frame h.own k fun g hg e => h3 (by rw [← e]; exact hg), h.nod, h.ok⟩
theorem notin {α : Type} {X : List α} {y : α} (h : (X ++ [y]).Nodup) : y ∉ X := fun hm => by
  rw [List.nodup_append] at h
  exact h.2.2 y hm y (by simp) rfl
set_option maxHeartbeats 8000000 in
set_option maxRecDepth 100000 in
theorem visit_any (hG : TG M cap) (hS : TS M) (hZ : Z = w0.heap.size) (hob : Z ≤ ob) (hov : ob ≠ vb) (hT : TIn w0 tb nb cap P E V M) : ∀ (fuel : Nat) (lp : List ByteArray) (i : Nat) (w : World) (v : Value) (LO : List (List ByteArray)), goE (entN M) 2 lp = some i → 256 ≤ fuel + lp.length → isDir M i = true →
    VSt w0 Z ob vb M w v LO → (∀ l ∈ LO, ∀ t, t ≠ [] → l ≠ lp ++ t) →
    Calls Try.prog 31 #[.string (pathS lp true), nptr (P i), .pointer (some ⟨ob, 0, none⟩), .pointer (some ⟨vb, 0, none⟩)] w fun e w' => e = .returned (.tuple #[]) ∧ ∃ LL v', BelowIs M i LL ∧ VSt w0 Z ob vb M w' v' (LO ++ LL.map (lp ++ ·)) ∧ VFr ob w v w' v' := by
  intro fuel
  induction fuel with
  | zero =>
    intro lp i w v LO hl hf
    have := (hS.len hl).2
    omega
  | succ fuel ih =>
    intro lp i w v LO hl hf hdi hst hno
    obtain ⟨nd, f, hm, hf2⟩ := isDir_there hdi
    have hbz : Below w0.heap.size w0 w := by have := hst.bel; rw [hZ] at this; exact this
    have h := hT.below hbz
    obtain ⟨b, hp, hb⟩ := h.at_ hm
    have c1 := cell_blk_some hb (i := 1) rfl
    obtain ⟨eb, hE, hMp⟩ : ∃ eb, E i = some eb ∧ MapIs Value.string w eb (entF P f) := by
      have := h.ents i nd hm
      rw [hf2] at this
      exact this
    have hef := ent_fun hm hf2
    obtain ⟨oi, n0, hrange, hrg⟩ := RngAt.start hMp klS (t := 65) (P := Try.prog) (K := 9) (e := 64) Try.underlying65
    rw [hE] at c1
    rw [hp]
    unfold nptr
    rw [Option.map_some]
    have hsta : VSt w0 Z ob vb M (w.alloc oi) v LO := ⟨hst.bel.alloc (by rw [hZ]; exact Nat.le_trans (by omega) hbz.size) _, blk_old hst.out, blk_old hst.vis, own_frame hst.own (S := fun _ => False) ((Fr.refl _ w).alloc oi) fun _ _ => id, hst.nod, hst.ok⟩
    have hfra : VFr ob w v (w.alloc oi) v := ⟨(Fr.refl _ w).alloc oi, fun c hc => .inl hc⟩
    have HL := Lib.hid hl; have HFU := Lib.hid hf; have IH := Lib.hid ih; have HEF := Lib.hid hef; have HRG := Lib.hid hrg; have HSTA := Lib.hid hsta; have HFRA := Lib.hid hfra; have HDI := Lib.hid hdi; have HGS := Lib.hid hG; have HSS := Lib.hid hS; have HNO := Lib.hid hno; have HT := Lib.hid hT; have HZ := Lib.hid hZ; have HOV := Lib.hid hov; have HOB := Lib.hid hob
    have HSZ0 := Lib.hid hbz.size
    clear h hm hp hb hdi ih hl hf hE hf2 hMp hef hrg hsta hfra hG hS hst hno hT hbz hZ hob hov
    go_enter Try.func31, Try.ntmps31
    go_wp2_with fail
    clear hrange c1
    generalize hwa : w.alloc oi = wa at *
    have hzr : Z ≤ w.heap.size := by rw [HZ.out]; exact HSZ0.out
    have HSZW := Lib.hid (Nat.le_refl w.heap.size)
    generalize hri : w.heap.size = ri at *
    have HRI := Lib.hid hri
    clear hwa hri
    go_loopw [] (fun wy => ∃ ds n vy LL, RngAt Value.string wy ri eb (entF P f) ds n ∧ VSt w0 Z ob vb M wy vy (LO ++ LL.map (lp ++ ·)) ∧ PartIs M i ds LL ∧ VFr ob w v wy vy) (fun wy => rngLeft wy ri eb)
    case atStart => exact ⟨[], n0, v, [], HRG.out, by rw [List.map_nil, List.append_nil]; exact HSTA.out, .nil, HFRA.out⟩
    case round =>
      obtain ⟨ds, n, vy, LL, hrg, hst, hpa, hvf⟩ := hrel
      have HLEFT := Lib.hid hrg.left
      have HST := Lib.hid hst; have HPA := Lib.hid hpa; have HVF := Lib.hid hvf
      rcases hrg.next klS (P := Try.prog) 0 with ⟨-, hall, hrun⟩ | ⟨s, x, wN, n', hs, hsd, hlt, hrgN, hfN, hrun, hent⟩
      · have HAL := Lib.hid hall
        clear hrg hall hst hpa hvf HRG HSTA HFRA
        go_wp2_with fail
        go_end0
        refine ⟨rfl, LL, vy, HPA.out.done fun s hs => (HAL.out s).1 ?_, HST.out, HVF.out⟩
        rw [HEF.out] at hs
        unfold entF
        cases he : f s with
        | none => rw [he] at hs; cases hs
        | some j => rfl
      · obtain ⟨j, hj, rfl⟩ : ∃ j, f s = some j ∧ nptr (P j) = x := by
          unfold entF at hs
          cases he : f s with
          | none => rw [he] at hs; cases hs
          | some j => rw [he] at hs; injection hs with hs; exact ⟨j, rfl, hs⟩
        have hen : entN M i s = some j := by rw [HEF.out]; exact hj
        obtain ⟨ra, rb, rc, rd, hro⟩ := hrg.obj
        have hnr : ri ≠ ob := fun e => by have := hst.out; rw [← e, hro] at this; injection this with this; cases this
        have hnv : ri ≠ vb := fun e => by have := hst.vis; rw [← e, hro] at this; injection this with this; cases this
        have hnw : vy.ownBlock ≠ some ri := own_off' hst.own hro (fun _ _ e => by cases e)
        have hstN := hst.iter HZ.out hfN hzr hnr hnv hnw
        have hvfN := hvf.iter hfN (by rw [HRI.out]; exact Nat.le_refl _)
        have hlt1 := HLEFT.out
        obtain ⟨ndj, hmj⟩ := Option.isSome_iff_exists.1 (HGS.out.ok.ent i s j hen)
        have hbN : Below w0.heap.size w0 wN := by have := hstN.bel; rw [HZ.out] at this; exact this
        obtain ⟨bj, hpj, _⟩ := (HT.out.below hbN).at_ hmj
        have HD := Lib.hid (dir_any (HT.out.below hbN) (HGS.out.ok.ent i s j hen))
        rw [hpj] at hrun hent HD
        unfold nptr at hrun hent HD
        rw [Option.map_some] at hrun hent HD
        have hgj : goE (entN M) 2 (lp ++ [s]) = some j := goE_snoc.2 ⟨i, HL.out, hen⟩
        have hnod : (LO ++ (LL ++ [[s]]).map (lp ++ ·)).Nodup := nod_ext (List.nodup_append.1 hst.nod).1 (by
            rw [List.nodup_append]
            refine ⟨hpa.1, by simp, fun a ha b hb e => ?_⟩
            rw [List.mem_singleton] at hb
            subst e hb
            obtain ⟨s', l', e, hs', _⟩ := (hpa.2 _).1 ha
            injection e with e1 _
            exact hsd (by rw [e1]; exact hs')) (fun t ht => by
            rcases List.mem_append.1 ht with ht | ht
            · obtain ⟨_, _, e, _⟩ := (hpa.2 _).1 ht
              rw [e]; simp
            · rw [List.mem_singleton.1 ht]; simp) HNO.out
        have hle : LO ++ (LL ++ [[s]]).map (lp ++ ·) = (LO ++ LL.map (lp ++ ·)) ++ [lp ++ [s]] := by simp
        rw [hle] at hnod
        have hcnt := HGS.out.paths_le (HT.out.capB) hst.nod hst.ok
        have hpS := HSS.out.size (l := lp ++ [s]) (by simp) hgj
        obtain ⟨va, vc, rfl⟩ := own_shape hst.own
        have x0 := cell_blk_some hstN.out (i := 0) rfl
        obtain ⟨N, hN⟩ : ∃ N, N = (LO ++ LL.map (lp ++ ·)).length := ⟨_, rfl⟩
        have hown := hstN.own
        rw [← hN] at x0 hown hcnt hstN hvfN
        have HON := Lib.hid hown; have HN := Lib.hid hN
        have hps1 := path_size lp true
        have hps2 := (HSS.out.len HL.out).1
        have hss := (nameE_len (HSS.out.nam i s j hen)).1
        have hss2 := Lib.size_eq s
        rw [if_pos rfl] at hps1
        have hcat : ¬ 9223372036854775807 < (pathS lp true).size + s.size := by omega
        clear hown hN hps1 hps2 hss hss2
        have HSN := Lib.hid hstN; have HVN := Lib.hid hvfN; have HRN := Lib.hid hrgN; have HLT := Lib.hid hlt; have HNOD := Lib.hid hnod; have HLE := Lib.hid hle; have HEN := Lib.hid hen; have HGJ := Lib.hid hgj; have HSD := Lib.hid hsd; have HPJ := Lib.hid hpj
        have HIN : Hid (lp ++ [s] ≠ [] ∧ (goE (entN M) 2 (lp ++ [s])).isSome = true) := Lib.hid ⟨by simp, by rw [hgj]; rfl⟩
        clear hrg hst hpa hvf HRG HSTA HFRA hs hlt hrgN hfN hj hen hro hnr hnv hnw hstN hvfN hlt1 hmj hbN hpj hgj hnod hle hsd
        cases hdj : isDir M j with
        | false =>
          have HPT : Hid (pathAt M (lp ++ [s]) = pathS (lp ++ [s]) false) := Lib.hid (by rw [pathAt_of HGJ.out, hdj])
          have HDJ := Lib.hid hdj
          rw [hdj] at HD hpS
          have hA := path_add lp s
          rw [← HPT.out] at hA hpS
          generalize hq : pathAt M (lp ++ [s]) = q at *
          have HQ := Lib.hid hq
          clear hdj hq
          have OW := Lib.hid (own_frame HON.out (S := fun _ => False) ((Fr.refl _ wN).alloc (.cells #[.string q] 9)) fun _ _ => id)
          have hzz : Z ≤ (wN.alloc (.cells #[.string q] 9)).heap.size := by have := HVN.out.1.size; have := HRI.out; simp; omega
          generalize hXS : ((LO ++ LL.map (lp ++ ·)).map (pathAt M)).map Value.string = XS at OW
          have HXS := Lib.hid hXS
          clear hXS
          go_wp2_with fail
          refine HD.out.mono ?_
          rintro e w4 ⟨rfl, hw4⟩
          obtain rfl := hw4.symm
          clear hrun hent HD
          go_wp2_with (refine wpList_append_g (by rfl) (.tmp 34) (.tmp 38) (by rfl) elStr (by rfl) OW.out (by rfl) (srcS wN q) (by unfold maxLen; omega) (by omega) hzz ?_)
          intro v5 w5 ho5 hf5 hv5
          obtain ⟨va5, vc5, rfl⟩ := own_shape ho5
          have hob5 := HSN.out.cells2 hf5
          have hg := HSN.out.grow HZ.out HOV.out HOB.out (l := lp ++ [s]) (by rw [← HN.out, HQ.out, HXS.out]; exact ho5) hf5 hv5 rfl HIN.out (notin HNOD.out)
          have hrn := hg.2.rng HRN.out HSN.out.own HSN.out.out
          rw [← HLE.out] at hg
          have d0 := cell_blk_some hob5 (i := 0) rfl
          have e0 := free_blk (i := 0) hob5
          have HG5 := Lib.hid hg; have HR5 := Lib.hid hrn
          clear ho5 hf5 hv5 hob5 hg hrn OW hzz x0 hcat
          go_wp2_with fail
          go_roundw
          case rel => exact ⟨ds ++ [s], n', _, LL ++ [[s]], HR5.out, HG5.out.1, HPA.out.file HSD.out HEN.out HDJ.out, HVN.out.trans HG5.out.2⟩
          case measure => rw [HLEFT.out, HR5.out.left]; exact HLT.out
        | true =>
          have HPT : Hid (pathAt M (lp ++ [s]) = pathS (lp ++ [s]) true) := Lib.hid (by rw [pathAt_of HGJ.out, hdj])
          have HDJ := Lib.hid hdj
          rw [hdj] at HD hpS
          have hA := path_add lp s
          have hB := path_dir (lp ++ [s])
          rw [← HPT.out] at hB hpS
          have hpt2 : pathS (lp ++ [s]) true = pathAt M (lp ++ [s]) := HPT.out.symm
          have hcat2 : ¬ 9223372036854775807 < (pathS (lp ++ [s]) false).size + 1 := by
            have := path_size (lp ++ [s]) false
            have := path_size (lp ++ [s]) true
            rw [hpt2] at this
            simp at *
            omega
          have HPT2 := Lib.hid hpt2
          clear hpt2
          generalize hq : pathAt M (lp ++ [s]) = q at *
          generalize hq0 : pathS (lp ++ [s]) false = q0 at *
          have HQ := Lib.hid hq
          clear hdj hq hq0
          have OW := Lib.hid (own_frame HON.out (S := fun _ => False) ((Fr.refl _ wN).alloc (.cells #[.string q] 9)) fun _ _ => id)
          have hzz : Z ≤ (wN.alloc (.cells #[.string q] 9)).heap.size := by have := HVN.out.1.size; have := HRI.out; simp; omega
          generalize hXS : ((LO ++ LL.map (lp ++ ·)).map (pathAt M)).map Value.string = XS at OW
          have HXS := Lib.hid hXS
          clear hXS
          go_wp2_with fail
          refine HD.out.mono ?_
          rintro e w4 ⟨rfl, hw4⟩
          obtain rfl := hw4.symm
          clear hrun hent HD
          go_wp2_with (refine wpList_append_g (by rfl) (.tmp 20) (.tmp 25) (by rfl) elStr (by rfl) OW.out (by rfl) (srcS wN q) (by unfold maxLen; omega) (by omega) hzz ?_)
          intro v5 w5 ho5 hf5 hv5
          obtain ⟨va5, vc5, rfl⟩ := own_shape ho5
          have hob5 := HSN.out.cells2 hf5
          have hg := HSN.out.grow HZ.out HOV.out HOB.out (l := lp ++ [s]) (by rw [← HN.out, HQ.out, HXS.out]; exact ho5) hf5 hv5 rfl HIN.out (notin HNOD.out)
          have hrn := hg.2.rng HRN.out HSN.out.own HSN.out.out
          rw [← HLE.out] at hg
          have d0 := cell_blk_some hob5 (i := 0) rfl
          have e0 := free_blk (i := 0) hob5
          have HG5 := Lib.hid hg; have HR5 := Lib.hid hrn
          clear ho5 hf5 hv5 hob5 hg hrn OW hzz x0
          have hvis := cell_blk_some HG5.out.1.vis (i := 0) rfl
          have hc := IH.out (lp ++ [s]) j _ _ _ HGJ.out (by have := HFU.out; rw [List.length_append, List.length_singleton]; omega) HDJ.out HG5.out.1 (fun l hl t ht e => by
            rcases List.mem_append.1 hl with hl | hl
            · exact HNO.out l hl (s :: t) (by simp) (by rw [e]; simp)
            · obtain ⟨x, hx, rfl⟩ := List.mem_map.1 hl
              have e : lp ++ x = lp ++ [s] ++ t := e
              rw [List.append_assoc] at e
              have e := List.append_cancel_left e
              rcases List.mem_append.1 hx with hx | hx
              · obtain ⟨s', l', e', hs', _⟩ := (HPA.out.2 _).1 hx
                rw [e'] at e
                injection e with e1 _
                exact HSD.out (by rw [← e1]; exact hs')
              · rw [List.mem_singleton.1 hx] at e
                injection e with _ e
                exact ht e.symm)
          rw [HPT2.out, HPJ.out] at hc
          unfold nptr at hc
          rw [Option.map_some] at hc
          have HC := Lib.hid hc
          clear hc IH
          go_wp2_with fail
          refine HC.out.mono ?_
          rintro e w6 ⟨rfl, LJ, v6, hJ, hst6, hvf6⟩
          have hr6 := hvf6.rng HR5.out HG5.out.1.own HG5.out.1.out
          have hle6 : (LO ++ (LL ++ [[s]]).map (lp ++ ·)) ++ LJ.map ((lp ++ [s]) ++ ·) = LO ++ ((LL ++ [[s]]) ++ LJ.map (s :: ·)).map (lp ++ ·) := by simp [Function.comp_def]
          rw [hle6] at hst6
          have HJ := Lib.hid hJ; have HST6 := Lib.hid hst6; have HV6 := Lib.hid hvf6; have HR6 := Lib.hid hr6
          clear hJ hst6 hvf6 hr6 hle6 HC d0 e0 hvis
          go_wp2_with fail
          go_roundw
          case rel => exact ⟨ds ++ [s], n', v6, (LL ++ [[s]]) ++ LJ.map (s :: ·), HR6.out, HST6.out, HPA.out.dir HSD.out HEN.out HJ.out, HVN.out.trans (HG5.out.2.trans HV6.out)⟩
          case measure => rw [HLEFT.out, HR6.out.left]; exact HLT.out
end
end Go.Proofs.Ytoofcnehoffllaa
