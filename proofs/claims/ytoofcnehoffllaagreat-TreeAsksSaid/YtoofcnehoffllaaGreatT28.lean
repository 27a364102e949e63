/- Walk of Walk's closure: the walk. -/
/- Sorted texts: the library's sort at a row of texts that the call owns; the keys of a map, sorted. -/
/- Walk of Stat. -/
/- Walks of List, Walk. -/
import Derived.Test.YtoofcnehoffllaaGreatT25
import Derived.Test.YtoofcnehoffllaaGreatT6
import Derived.Test.YtoofcnehoffllaaGreatShelfI
import Derived.StringKeys
import Derived.Test.YtoofcnehoffllaaGreatT21
namespace Go.Proofs.YtoofcnehoffllaaGreat
open Go.RowKit

theorem own_off' {w : World} {B n sz b : Nat} {e : TypeId} {v : Value} {xs : List Value} {o : Obj} (h : w.ownsRow B e sz v n xs) (hb : w.heap[b]? = some o) (ho : ∀ c z, o ≠ .cells c e z) : v.ownBlock ≠ some b := fun hv => by
  rcases h.2 with hh | ⟨g, cap, cur, rfl, _, hg, _⟩
  · rw [hh.1] at hv; cases hv
  · injection hv with hv
    have hv : g = b := hv
    rw [hv, hb] at hg
    injection hg with hg
    exact ho _ _ hg
theorem RngAt.obj {α : Type} {ke : α → Value} {w : World} {mb ri n : Nat} {f : α → Option Value} {done : List α} (h : RngAt ke w ri mb f done n) : ∃ a b c d, w.heap[ri]? = some (.mapIter a b c d) := by
  obtain ⟨es, clock, seen, hr, _⟩ := h
  exact ⟨_, _, _, _, hr⟩
section
variable {tb nb cap : Nat} {P E : Nat → Option Nat} {V : Nat → Value} {M : TM} {w0 : World} {Z ob vb : Nat}
/-- What a call of the closure leaves as it was. -/
def VFr (ob : Nat) (w : World) (v : Value) (w' : World) (v' : Value) : Prop := Fr (fun x => x = ob ∨ v.ownBlock = some x) w w' ∧ ∀ c, v'.ownBlock = some c → v.ownBlock = some c ∨ w.heap.size ≤ c
theorem VFr.refl (w : World) (v : Value) : VFr ob w v w v := ⟨Fr.refl _ _, fun _ h => .inl h⟩
theorem VFr.trans {w w1 w2 : World} {v v1 v2 : Value} (h : VFr ob w v w1 v1) (k : VFr ob w1 v1 w2 v2) : VFr ob w v w2 v2 := by
  refine ⟨h.1.trans' k.1 fun x hx hs => ?_, fun c hc => ?_⟩
  · rcases hs with e | e
    · exact .inl e
    · rcases h.2 x e with e | e
      · exact .inr e
      · omega
  · rcases k.2 c hc with e | e
    · exact h.2 c e
    · exact .inr (Nat.le_trans h.1.size e)
theorem VFr.rng {w w' : World} {v v' : Value} {ri n : Nat} {B len : Nat} {xs : List Value} {α : Type} {ke : α → Value} {mb : Nat} {f : α → Option Value} {done : List α} (h : VFr ob w v w' v') (hr : RngAt ke w ri mb f done n) (hv : w.ownsRow B 9 1 v len xs) {c : Array Value} {t : TypeId} {z : Nat × Nat} (hob : w.heap[ob]? = some (.cells c t z)) : RngAt ke w' ri mb f done n := by
  obtain ⟨a, b, c', d, hri⟩ := hr.obj
  refine hr.fr h.1 (fun e => ?_) (fun e => ?_)
  · rcases e with e | e
    · rw [← e, hri] at hob; injection hob with hob; cases hob
    · exact own_off' hv hri (fun _ _ e => by cases e) e
  · obtain ⟨es, clock, seen, _, hm, _⟩ := hr
    rcases e with e | e
    · rw [← e, hm] at hob; injection hob with hob; cases hob
    · exact own_off' hv hm (fun _ _ e => by cases e) e
/-- One text more. -/
theorem VSt.grow {w w2 w3 : World} {v v2 : Value} {LO : List (List ByteArray)} {l : List ByteArray} (h : VSt w0 Z ob vb M w v LO) (hZ : Z = w0.heap.size) (hov : ob ≠ vb) (hob : Z ≤ ob) {o : Obj} (ho : w2.ownsRow Z 9 1 v2 (LO.length + 1) ((LO.map (pathAt M)).map Value.string ++ [.string (pathAt M l)]))
    (hf : Fr (fun x => v.ownBlock = some x) (w.alloc o) w2) (hv : v2.ownBlock = v.ownBlock ∨ v2.ownBlock = some (w.heap.size + 1)) (h3 : w3 = w2.setCell ⟨ob, 0, none⟩ v2) (hl : l ≠ [] ∧ (goE (entN M) 2 l).isSome = true) (hn : l ∉ LO) :
    VSt w0 Z ob vb M w3 v2 (LO ++ [l]) ∧ VFr ob w v w3 v2 := by
  have hof : v.ownBlock ≠ some ob := own_off h.own h.out (by decide)
  have hvf : v.ownBlock ≠ some vb := own_off h.own h.vis (by decide)
  have hw1 : Fr (fun x => v.ownBlock = some x) w w2 := ((Fr.refl _ w).alloc o).trans hf
  have ho2 := (hw1.block ob (blk_lt h.out) hof).trans h.out
  have hv2 := (hw1.block vb (blk_lt h.vis) hvf).trans h.vis
  have hsz := hw1.size
  have hvo : ∀ c, v2.ownBlock = some c → v.ownBlock = some c ∨ w.heap.size ≤ c := fun c hc => by
    rcases hv with e | e
    · exact .inl (by rw [← e]; exact hc)
    · rw [hc] at e
      injection e with e
      exact .inr (by omega)
  have hof2 : v2.ownBlock ≠ some ob := own_off ho ho2 (by decide)
  have hfr3 : Fr (fun x => x = ob) w2 w3 := by rw [h3]; exact (Fr.refl (fun x => x = ob) w2).setCell ⟨ob, 0, none⟩ rfl _
  have hfin : Fr (fun x => x = ob ∨ v.ownBlock = some x) w w3 := (hw1.tell fun x hx => .inr hx).trans (hfr3.tell fun x hx => .inl hx)
  have hbz : Z ≤ w.heap.size := by rw [hZ]; exact Nat.le_trans (by omega) h.bel.size
  refine ⟨⟨h.bel.trans (hfin.toBelow hbz fun x hx => ?_), ?_, ?_, ?_, ?_, fun m hm => ?_⟩, hfin, hvo⟩
  · rcases hx with e | e
    · rw [e]; exact hob
    · exact (World.ownsRow.lt h.own x e).1
  · rw [h3]; exact blk_set (i := 0) ho2 v2
  · exact (hfr3.block vb (blk_lt hv2) (fun e => hov e.symm)).trans hv2
  · rw [List.length_append, List.length_singleton, List.map_append, List.map_append]
    exact own_frame ho hfr3 fun g hg e => hof2 (by rw [← e]; exact hg)
  · rw [List.nodup_append]
    exact ⟨h.nod, by simp, fun a ha b hb e => hn (by rw [List.mem_singleton] at hb; rw [← hb, ← e]; exact ha)⟩
  · rcases List.mem_append.1 hm with hm | hm
    · exact h.ok m hm
    · rw [List.mem_singleton.1 hm]; exact hl
theorem VSt.cells2 {w w2 : World} {v : Value} {LO : List (List ByteArray)} {o : Obj} (h : VSt w0 Z ob vb M w v LO) (hf : Fr (fun x => v.ownBlock = some x) (w.alloc o) w2) : w2.heap[ob]? = some (.cells #[v] 54 (0, 0)) :=
  ((((Fr.refl _ w).alloc o).trans hf).block ob (blk_lt h.out) (own_off h.own h.out (by decide))).trans h.out
theorem VFr.iter {w w1 w2 : World} {v v1 : Value} {ri : Nat} (h : VFr ob w v w1 v1) (k : Fr (fun x => x = ri) w1 w2) (hr : w.heap.size ≤ ri) : VFr ob w v w2 v1 :=
  ⟨h.1.trans' k fun x hx e => by omega, h.2⟩
theorem VSt.iter {w w2 : World} {v : Value} {LO : List (List ByteArray)} {ri : Nat} (h : VSt w0 Z ob vb M w v LO) (hZ : Z = w0.heap.size) (k : Fr (fun x => x = ri) w w2) (hr : Z ≤ ri) (h1 : ri ≠ ob) (h2 : ri ≠ vb) (h3 : v.ownBlock ≠ some ri) : VSt w0 Z ob vb M w2 v LO :=
  ⟨h.bel.trans (k.toBelow (by rw [hZ]; exact Nat.le_trans (by omega) h.bel.size) fun x hx => by rw [hx]; exact hr), (k.block ob (blk_lt h.out) (fun e => h1 e.symm)).trans h.out, (k.block vb (blk_lt h.vis) (fun e => h2 e.symm)).trans h.vis, own_frame h.own k fun g hg e => h3 (by rw [← e]; exact hg), h.nod, h.ok⟩
theorem notin {α : Type} {X : List α} {y : α} (h : (X ++ [y]).Nodup) : y ∉ X := fun hm => by
  rw [List.nodup_append] at h
  exact h.2.2 y hm y (by simp) rfl
set_option maxHeartbeats 8000000 in
set_option maxRecDepth 100000 in
theorem visit_any (hG : TG M cap) (hS : TS M) (hZ : Z = w0.heap.size) (hob : Z ≤ ob) (hov : ob ≠ vb) (hT : TIn w0 tb nb cap P E V M) : ∀ (fuel : Nat) (lp : List ByteArray) (i : Nat) (w : World) (v : Value) (LO : List (List ByteArray)), goE (entN M) 2 lp = some i → 256 ≤ fuel + lp.length → isDir M i = true →
    VSt w0 Z ob vb M w v LO → (∀ l ∈ LO, ∀ t, t ≠ [] → l ≠ lp ++ t) →
    Calls Tryz.prog 48 #[.string (pathS lp true), nptr (P i), .pointer (some ⟨ob, 0, none⟩), .pointer (some ⟨vb, 0, none⟩)] w fun e w' => e = .returned (.tuple #[]) ∧ ∃ LL v', BelowIs M i LL ∧ VSt w0 Z ob vb M w' v' (LO ++ LL.map (lp ++ ·)) ∧ VFr ob w v w' v' := by
  intro fuel
  induction fuel with
  | zero =>
    intro lp i w v LO hl hf
    have := (hS.len hl).2
    omega
  | succ fuel ih =>
    intro lp i w v LO hl hf hdi hst hno
    obtain ⟨nd, f, hm, hf2⟩ := isDir_there hdi
    have hbz : Below w0.heap.size w0 w := by have := hst.bel; rw [hZ] at this; exact this
    have h := hT.below hbz
    obtain ⟨b, hp, hb⟩ := h.at_ hm
    have c1 := cell_blk_some hb (i := 1) rfl
    obtain ⟨eb, hE, hMp⟩ : ∃ eb, E i = some eb ∧ MapIs Value.string w eb (entF P f) := by
      have := h.ents i nd hm
      rw [hf2] at this
      exact this
    have hef := ent_fun hm hf2
    obtain ⟨oi, n0, hrange, hrg⟩ := RngAt.start hMp klS (t := 69) (P := Tryz.prog) (K := 9) (e := 68) Tryz.underlying69
    rw [hE] at c1
    rw [hp]
    unfold nptr
    rw [Option.map_some]
    have hsta : VSt w0 Z ob vb M (w.alloc oi) v LO := ⟨hst.bel.alloc (by rw [hZ]; exact Nat.le_trans (by omega) hbz.size) _, blk_old hst.out, blk_old hst.vis, own_frame hst.own (S := fun _ => False) ((Fr.refl _ w).alloc oi) fun _ _ => id, hst.nod, hst.ok⟩
    have hfra : VFr ob w v (w.alloc oi) v := ⟨(Fr.refl _ w).alloc oi, fun c hc => .inl hc⟩
    have HL := Lib.hid hl; have HFU := Lib.hid hf; have IH := Lib.hid ih; have HEF := Lib.hid hef; have HRG := Lib.hid hrg; have HSTA := Lib.hid hsta; have HFRA := Lib.hid hfra; have HDI := Lib.hid hdi; have HGS := Lib.hid hG; have HSS := Lib.hid hS; have HNO := Lib.hid hno; have HT := Lib.hid hT; have HZ := Lib.hid hZ; have HOV := Lib.hid hov; have HOB := Lib.hid hob
    have HSZ0 := Lib.hid hbz.size
    clear h hm hp hb hdi ih hl hf hE hf2 hMp hef hrg hsta hfra hG hS hst hno hT hbz hZ hob hov
    go_enter Tryz.func48, Tryz.ntmps48
    go_wp2_with fail
    clear hrange c1
    generalize hwa : w.alloc oi = wa at *
    have hzr : Z ≤ w.heap.size := by rw [HZ.out]; exact HSZ0.out
    have HSZW := Lib.hid (Nat.le_refl w.heap.size)
    generalize hri : w.heap.size = ri at *
    have HRI := Lib.hid hri
    clear hwa hri
    go_loopw [] (fun wy => ∃ ds n vy LL, RngAt Value.string wy ri eb (entF P f) ds n ∧ VSt w0 Z ob vb M wy vy (LO ++ LL.map (lp ++ ·)) ∧ PartIs M i ds LL ∧ VFr ob w v wy vy) (fun wy => rngLeft wy ri eb)
    case atStart => exact ⟨[], n0, v, [], HRG.out, by rw [List.map_nil, List.append_nil]; exact HSTA.out, .nil, HFRA.out⟩
    case round =>
      obtain ⟨ds, n, vy, LL, hrg, hst, hpa, hvf⟩ := hrel
      have HLEFT := Lib.hid hrg.left
      have HST := Lib.hid hst; have HPA := Lib.hid hpa; have HVF := Lib.hid hvf
      rcases hrg.next klS (P := Tryz.prog) 0 with ⟨-, hall, hrun⟩ | ⟨s, x, wN, n', hs, hsd, hlt, hrgN, hfN, hrun, hent⟩
      · have HAL := Lib.hid hall
        clear hrg hall hst hpa hvf HRG HSTA HFRA
        go_wp2_with fail
        go_end0
        refine ⟨rfl, LL, vy, HPA.out.done fun s hs => (HAL.out s).1 ?_, HST.out, HVF.out⟩
        rw [HEF.out] at hs
        unfold entF
        cases he : f s with
        | none => rw [he] at hs; cases hs
        | some j => rfl
      · obtain ⟨j, hj, rfl⟩ : ∃ j, f s = some j ∧ nptr (P j) = x := by
          unfold entF at hs
          cases he : f s with
          | none => rw [he] at hs; cases hs
          | some j => rw [he] at hs; injection hs with hs; exact ⟨j, rfl, hs⟩
        have hen : entN M i s = some j := by rw [HEF.out]; exact hj
        obtain ⟨ra, rb, rc, rd, hro⟩ := hrg.obj
        have hnr : ri ≠ ob := fun e => by have := hst.out; rw [← e, hro] at this; injection this with this; cases this
        have hnv : ri ≠ vb := fun e => by have := hst.vis; rw [← e, hro] at this; injection this with this; cases this
        have hnw : vy.ownBlock ≠ some ri := own_off' hst.own hro (fun _ _ e => by cases e)
        have hstN := hst.iter HZ.out hfN hzr hnr hnv hnw
        have hvfN := hvf.iter hfN (by rw [HRI.out]; exact Nat.le_refl _)
        have hlt1 := HLEFT.out
        obtain ⟨ndj, hmj⟩ := Option.isSome_iff_exists.1 (HGS.out.ok.ent i s j hen)
        have hbN : Below w0.heap.size w0 wN := by have := hstN.bel; rw [HZ.out] at this; exact this
        obtain ⟨bj, hpj, _⟩ := (HT.out.below hbN).at_ hmj
        have HD := Lib.hid (dir_any (HT.out.below hbN) (HGS.out.ok.ent i s j hen))
        rw [hpj] at hrun hent HD
        unfold nptr at hrun hent HD
        rw [Option.map_some] at hrun hent HD
        have hgj : goE (entN M) 2 (lp ++ [s]) = some j := goE_snoc.2 ⟨i, HL.out, hen⟩
        have hnod : (LO ++ (LL ++ [[s]]).map (lp ++ ·)).Nodup := nod_ext (List.nodup_append.1 hst.nod).1 (by
            rw [List.nodup_append]
            refine ⟨hpa.1, by simp, fun a ha b hb e => ?_⟩
            rw [List.mem_singleton] at hb
            subst e hb
            obtain ⟨s', l', e, hs', _⟩ := (hpa.2 _).1 ha
            injection e with e1 _
            exact hsd (by rw [e1]; exact hs')) (fun t ht => by
            rcases List.mem_append.1 ht with ht | ht
            · obtain ⟨_, _, e, _⟩ := (hpa.2 _).1 ht
              rw [e]; simp
            · rw [List.mem_singleton.1 ht]; simp) HNO.out
        have hle : LO ++ (LL ++ [[s]]).map (lp ++ ·) = (LO ++ LL.map (lp ++ ·)) ++ [lp ++ [s]] := by simp
        rw [hle] at hnod
        have hcnt := HGS.out.paths_le (HT.out.capB) hst.nod hst.ok
        have hpS := HSS.out.size (l := lp ++ [s]) (by simp) hgj
        obtain ⟨va, vc, rfl⟩ := own_shape hst.own
        have x0 := cell_blk_some hstN.out (i := 0) rfl
        obtain ⟨N, hN⟩ : ∃ N, N = (LO ++ LL.map (lp ++ ·)).length := ⟨_, rfl⟩
        have hown := hstN.own
        rw [← hN] at x0 hown hcnt hstN hvfN
        have HON := Lib.hid hown; have HN := Lib.hid hN
        have hps1 := path_size lp true
        have hps2 := (HSS.out.len HL.out).1
        have hss := (nameE_len (HSS.out.nam i s j hen)).1
        have hss2 := Lib.size_eq s
        rw [if_pos rfl] at hps1
        have hcat : ¬ 9223372036854775807 < (pathS lp true).size + s.size := by omega
        clear hown hN hps1 hps2 hss hss2
        have HSN := Lib.hid hstN; have HVN := Lib.hid hvfN; have HRN := Lib.hid hrgN; have HLT := Lib.hid hlt; have HNOD := Lib.hid hnod; have HLE := Lib.hid hle; have HEN := Lib.hid hen; have HGJ := Lib.hid hgj; have HSD := Lib.hid hsd; have HPJ := Lib.hid hpj
        have HIN : Hid (lp ++ [s] ≠ [] ∧ (goE (entN M) 2 (lp ++ [s])).isSome = true) := Lib.hid ⟨by simp, by rw [hgj]; rfl⟩
        clear hrg hst hpa hvf HRG HSTA HFRA hs hlt hrgN hfN hj hen hro hnr hnv hnw hstN hvfN hlt1 hmj hbN hpj hgj hnod hle hsd
        cases hdj : isDir M j with
        | false =>
          have HPT : Hid (pathAt M (lp ++ [s]) = pathS (lp ++ [s]) false) := Lib.hid (by rw [pathAt_of HGJ.out, hdj])
          have HDJ := Lib.hid hdj
          rw [hdj] at HD hpS
          have hA := path_add lp s
          rw [← HPT.out] at hA hpS
          generalize hq : pathAt M (lp ++ [s]) = q at *
          have HQ := Lib.hid hq
          clear hdj hq
          have OW := Lib.hid (own_frame HON.out (S := fun _ => False) ((Fr.refl _ wN).alloc (.cells #[.string q] 9)) fun _ _ => id)
          have hzz : Z ≤ (wN.alloc (.cells #[.string q] 9)).heap.size := by have := HVN.out.1.size; have := HRI.out; simp; omega
          generalize hXS : ((LO ++ LL.map (lp ++ ·)).map (pathAt M)).map Value.string = XS at OW
          have HXS := Lib.hid hXS
          clear hXS
          go_wp2_with fail
          refine HD.out.mono ?_
          rintro e w4 ⟨rfl, hw4⟩
          obtain rfl := hw4.symm
          clear hrun hent HD
          go_wp2_with (refine wpList_append_g (by rfl) (.tmp 34) (.tmp 38) (by rfl) elStr (by rfl) OW.out (by rfl) (srcS wN q) (by unfold maxLen; omega) (by omega) hzz ?_)
          intro v5 w5 ho5 hf5 hv5
          obtain ⟨va5, vc5, rfl⟩ := own_shape ho5
          have hob5 := HSN.out.cells2 hf5
          have hg := HSN.out.grow HZ.out HOV.out HOB.out (l := lp ++ [s]) (by rw [← HN.out, HQ.out, HXS.out]; exact ho5) hf5 hv5 rfl HIN.out (notin HNOD.out)
          have hrn := hg.2.rng HRN.out HSN.out.own HSN.out.out
          rw [← HLE.out] at hg
          have d0 := cell_blk_some hob5 (i := 0) rfl
          have e0 := free_blk (i := 0) hob5
          have HG5 := Lib.hid hg; have HR5 := Lib.hid hrn
          clear ho5 hf5 hv5 hob5 hg hrn OW hzz x0 hcat
          go_wp2_with fail
          go_roundw
          case rel => exact ⟨ds ++ [s], n', _, LL ++ [[s]], HR5.out, HG5.out.1, HPA.out.file HSD.out HEN.out HDJ.out, HVN.out.trans HG5.out.2⟩
          case measure => rw [HLEFT.out, HR5.out.left]; exact HLT.out
        | true =>
          have HPT : Hid (pathAt M (lp ++ [s]) = pathS (lp ++ [s]) true) := Lib.hid (by rw [pathAt_of HGJ.out, hdj])
          have HDJ := Lib.hid hdj
          rw [hdj] at HD hpS
          have hA := path_add lp s
          have hB := path_dir (lp ++ [s])
          rw [← HPT.out] at hB hpS
          have hpt2 : pathS (lp ++ [s]) true = pathAt M (lp ++ [s]) := HPT.out.symm
          have hcat2 : ¬ 9223372036854775807 < (pathS (lp ++ [s]) false).size + 1 := by
            have := path_size (lp ++ [s]) false
            have := path_size (lp ++ [s]) true
            rw [hpt2] at this
            simp at *
            omega
          have HPT2 := Lib.hid hpt2
          clear hpt2
          generalize hq : pathAt M (lp ++ [s]) = q at *
          generalize hq0 : pathS (lp ++ [s]) false = q0 at *
          have HQ := Lib.hid hq
          clear hdj hq hq0
          have OW := Lib.hid (own_frame HON.out (S := fun _ => False) ((Fr.refl _ wN).alloc (.cells #[.string q] 9)) fun _ _ => id)
          have hzz : Z ≤ (wN.alloc (.cells #[.string q] 9)).heap.size := by have := HVN.out.1.size; have := HRI.out; simp; omega
          generalize hXS : ((LO ++ LL.map (lp ++ ·)).map (pathAt M)).map Value.string = XS at OW
          have HXS := Lib.hid hXS
          clear hXS
          go_wp2_with fail
          refine HD.out.mono ?_
          rintro e w4 ⟨rfl, hw4⟩
          obtain rfl := hw4.symm
          clear hrun hent HD
          go_wp2_with (refine wpList_append_g (by rfl) (.tmp 20) (.tmp 25) (by rfl) elStr (by rfl) OW.out (by rfl) (srcS wN q) (by unfold maxLen; omega) (by omega) hzz ?_)
          intro v5 w5 ho5 hf5 hv5
          obtain ⟨va5, vc5, rfl⟩ := own_shape ho5
          have hob5 := HSN.out.cells2 hf5
          have hg := HSN.out.grow HZ.out HOV.out HOB.out (l := lp ++ [s]) (by rw [← HN.out, HQ.out, HXS.out]; exact ho5) hf5 hv5 rfl HIN.out (notin HNOD.out)
          have hrn := hg.2.rng HRN.out HSN.out.own HSN.out.out
          rw [← HLE.out] at hg
          have d0 := cell_blk_some hob5 (i := 0) rfl
          have e0 := free_blk (i := 0) hob5
          have HG5 := Lib.hid hg; have HR5 := Lib.hid hrn
          clear ho5 hf5 hv5 hob5 hg hrn OW hzz x0
          have hvis := cell_blk_some HG5.out.1.vis (i := 0) rfl
          have hc := IH.out (lp ++ [s]) j _ _ _ HGJ.out (by have := HFU.out; rw [List.length_append, List.length_singleton]; omega) HDJ.out HG5.out.1 (fun l hl t ht e => by
            rcases List.mem_append.1 hl with hl | hl
            · exact HNO.out l hl (s :: t) (by simp) (by rw [e]; simp)
            · obtain ⟨x, hx, rfl⟩ := List.mem_map.1 hl
              have e : lp ++ x = lp ++ [s] ++ t := e
              rw [List.append_assoc] at e
              have e := List.append_cancel_left e
              rcases List.mem_append.1 hx with hx | hx
              · obtain ⟨s', l', e', hs', _⟩ := (HPA.out.2 _).1 hx
                rw [e'] at e
                injection e with e1 _
                exact HSD.out (by rw [← e1]; exact hs')
              · rw [List.mem_singleton.1 hx] at e
                injection e with _ e
                exact ht e.symm)
          rw [HPT2.out, HPJ.out] at hc
          unfold nptr at hc
          rw [Option.map_some] at hc
          have HC := Lib.hid hc
          clear hc IH
          go_wp2_with fail
          refine HC.out.mono ?_
          rintro e w6 ⟨rfl, LJ, v6, hJ, hst6, hvf6⟩
          have hr6 := hvf6.rng HR5.out HG5.out.1.own HG5.out.1.out
          have hle6 : (LO ++ (LL ++ [[s]]).map (lp ++ ·)) ++ LJ.map ((lp ++ [s]) ++ ·) = LO ++ ((LL ++ [[s]]) ++ LJ.map (s :: ·)).map (lp ++ ·) := by simp [Function.comp_def]
          rw [hle6] at hst6
          have HJ := Lib.hid hJ; have HST6 := Lib.hid hst6; have HV6 := Lib.hid hvf6; have HR6 := Lib.hid hr6
          clear hJ hst6 hvf6 hr6 hle6 HC d0 e0 hvis
          go_wp2_with fail
          go_roundw
          case rel => exact ⟨ds ++ [s], n', v6, (LL ++ [[s]]) ++ LJ.map (s :: ·), HR6.out, HST6.out, HPA.out.dir HSD.out HEN.out HJ.out, HVN.out.trans (HG5.out.2.trans HV6.out)⟩
          case measure => rw [HLEFT.out, HR6.out.left]; exact HLT.out
end
end Go.Proofs.YtoofcnehoffllaaGreat

namespace Go.Proofs.YtoofcnehoffllaaGreat
open Go.RowKit

/-- Texts, rising. -/
def sortS (l : List ByteArray) : List ByteArray := ((l.map (·.data.toList)).mergeSort fun x y => decide (x ≤ y)).map mkS
theorem sortS_perm (l : List ByteArray) : (sortS l).Perm l := by
  unfold sortS
  have := (List.mergeSort_perm (l.map (·.data.toList)) fun x y => decide (x ≤ y)).map mkS
  rw [map_mkS_data] at this
  exact this
theorem sortS_length (l : List ByteArray) : (sortS l).length = l.length := (sortS_perm l).length_eq
theorem sortS_of_perm {l m : List ByteArray} (h : l.Perm m) : sortS l = sortS m := by
  unfold sortS
  rw [mergeSort_of_perm (h.map _)]
theorem sortS_sorted (l : List ByteArray) : ((sortS l).map (·.data.toList)).Pairwise (· ≤ ·) := by
  unfold sortS
  rw [map_data_mkS]
  have := List.pairwise_mergeSort (le := fun x y : List UInt8 => decide (x ≤ y)) (fun a b c h1 h2 => by simp only [decide_eq_true_eq] at *; exact List.le_trans h1 h2) (fun a b => by simp only [Bool.or_eq_true, decide_eq_true_eq]; exact List.le_total a b) (l.map (·.data.toList))
  exact this.imp fun h => by simpa using h
theorem sortS_eq {l m : List ByteArray} (h : m.Perm l) (hs : (m.map (·.data.toList)).Pairwise (· ≤ ·)) : sortS l = m := by
  have h1 : ((sortS l).map (·.data.toList)) = m.map (·.data.toList) := List.Perm.eq_of_pairwise (le := (· ≤ ·)) (fun a b _ _ h1 h2 => List.le_antisymm h1 h2) (sortS_sorted l) hs (((sortS_perm l).trans h.symm).map _)
  have := congrArg (List.map mkS) h1
  rw [map_mkS_data, map_mkS_data] at this
  exact this
theorem encS (l : List ByteArray) : (l.map (·.data.toList)).map encStr = l.map Value.string := by
  rw [List.map_map]
  exact List.map_congr_left fun x _ => by simp [encStr]
theorem encS' (l : List ByteArray) : ((l.map (·.data.toList)).mergeSort fun x y => decide (x ≤ y)).map encStr = (sortS l).map Value.string := by
  rw [← encS]
  unfold sortS
  rw [map_data_mkS]
section
variable {w : World} {B : Nat} {v : Value} {l : List ByteArray}
theorem sortS_own (h : w.ownsRow B 9 1 v l.length (l.map Value.string)) (hl : l.length ≤ 1000000000) :
    Calls Tryz.prog 49 #[v] w fun e w' => e = .returned (.tuple #[]) ∧ w'.ownsRow B 9 1 v l.length ((sortS l).map Value.string) ∧ Fr (fun x => v.ownBlock = some x) w w' := by
  rcases h.2 with ⟨rfl, h0⟩ | ⟨g, cap, cur, rfl, h0, hg, hc, hm, hs, ht⟩
  · have hn : l = [] := List.eq_nil_of_length_eq_zero h0
    subst hn
    refine (AnyM.slices_Sort_string_none Tryz.sortS none 0 w).mono ?_
    rintro e w' ⟨rfl, rfl⟩
    exact ⟨rfl, by unfold sortS; rw [List.map_nil, List.mergeSort_nil]; exact h, Fr.refl _ _⟩
  · have ht' : cur.toList.take (l.map (·.data.toList)).length = (l.map (·.data.toList)).map encStr := by rw [encS, List.length_map]; rw [Nat.mul_one] at ht; exact ht
    have hh := AnyM.slices_Sort_string Tryz.sortS g 0 cap (l.map (·.data.toList)) w (holds_of_block hg ht') (blk_lt hg) (by rw [List.length_map]; omega)
    rw [List.length_map] at hh
    refine hh.mono ?_
    rintro e w' ⟨rfl, n, os, rfl⟩
    refine ⟨rfl, ?_, Fr.grown (o := some g) (grownBy_sorted _)⟩
    have := ownsRow_sorted (w := w) (n := n) (os := os) (ss := l.map (·.data.toList)) (ts := (l.map (·.data.toList)).mergeSort fun x y => decide (x ≤ y)) (List.length_mergeSort _) h0 hg (by rw [List.length_map]; exact hc) hm hs
    rw [List.length_map, encS'] at this
    exact this
end
section
variable {P : Program} {K e t : TypeId} {w : World} {mb : Nat} {f : ByteArray → Option Value}
theorem MapIs.ownsS (h : MapIs Value.string w mb f) (hK : P.underlying K = some .string) (ht : P.underlying t = some (.map K e)) {z : Value} (hz : ∀ w, (zeroValue e).run P w = .ok z w) (hw : ∀ k, (f k).isSome = true → k.size ≤ maxLen) {l : List ByteArray} (hn : l.Nodup) (hl : ∀ k, k ∈ l ↔ (f k).isSome = true) (hmax : l.length ≤ maxLen) :
    ∃ D0 : DataW Unit, w.ownsMap P K (fun _ => some (.nil, [])) mb l.length D0 ∧ (l.map (·.data.toList)).Perm (strKeys D0) ∧ Maps.size D0 ≤ l.length := by
  obtain ⟨es, c, hm, hsz⟩ := h.count (kl_str hK) hn hl
  have h' := h
  obtain ⟨es', c', hm', hs, h1, h2⟩ := h
  rw [hm] at hm'
  injection hm' with hm'
  injection hm' with e1 e2
  subst e1; subst e2
  have hkey : ∀ k, (f k).isSome = true → keyOf P K (.string k) = some (.string k.data.toList) := fun k hk => WideMaps.keyOf_string_mk hK (hw k hk)
  have hown : w.ownsMap P K (fun _ => some ((DataW.nil : DataW Unit), [])) mb l.length (.map ((es.toList.map (WideElems.rg P K (fun _ => some (.nil, [])))).foldr DataW.insert [])) :=
    ⟨es, c, hm, ⟨by omega, hs, fun x hx => by
      obtain ⟨k, a, b⟩ := h1 x hx
      exact ⟨(.string k.data.toList, .nil), by unfold WideElems.rd; rw [a, hkey k (by rw [b]; rfl)]; rfl⟩⟩, by omega, rfl⟩
  generalize (DataW.map ((es.toList.map (WideElems.rg P K (fun _ => some ((DataW.nil : DataW Unit), [])))).foldr DataW.insert [])) = D0 at hown
  have KI := Maps.string_keyed (P := P) hK
  have hhas : ∀ x, x ∈ l.map (·.data.toList) ↔ (Maps.has D0 (.string x) = true ∧ (fun _ => false : Lit → Bool) (.string x) = false) := fun x => by
    rw [List.mem_map]
    refine ⟨fun ⟨k, hk, e⟩ => ?_, fun ⟨hx, _⟩ => ?_⟩
    · subst e
      have hx := (hl k).1 hk
      refine ⟨?_, rfl⟩
      obtain ⟨v, ps, hr, _⟩ := hown.look_ok (t := t) KI ht (hz w) rfl (hkey k hx)
      have := h'.look2 (kl_str hK) ht hz k
      rw [hr] at this
      simp at this
      rw [this.2, hx]
    · obtain ⟨xs, hD, hko⟩ := hown.keysOf
      have hx' := hx
      rw [hD, Maps.has_eq, List.any_eq_true] at hx
      obtain ⟨p, hp, hs⟩ := hx
      obtain ⟨v, hv⟩ := hko p hp
      obtain ⟨y, hy1, hy2, hy3⟩ := Maps.keyOf_str hK hv
      rw [hy2] at hs hv
      obtain rfl : y = x := by simpa [Lit.sameKey] using hs
      have hyk : v = .string (mkS y) := by rw [hy1]; rfl
      subst hyk
      obtain ⟨v, ps, hr, _⟩ := hown.look_ok (t := t) KI ht (hz w) rfl hv
      have := h'.look2 (kl_str hK) ht hz (mkS y)
      rw [hr] at this
      simp at this
      exact ⟨mkS y, (hl _).2 (by rw [← this.2, hx']), data_mkS y⟩
  exact ⟨D0, hown, Collected.perm (ss := l.map (·.data.toList)) ⟨nodup_on hn fun a _ b _ e => by rw [← mkS_data a, ← mkS_data b, e], hhas⟩ hown KI hK (fun _ => rfl), hown.size_le⟩
end
end Go.Proofs.YtoofcnehoffllaaGreat

namespace Go.Proofs.YtoofcnehoffllaaGreat
open Go.RowKit

section
variable {w w' : World} {tb nb cap : Nat} {P E : Nat → Option Nat} {V : Nat → Value} {M : TM}
set_option maxHeartbeats 4000000 in
set_option maxRecDepth 100000 in
theorem stat_any {F : Nat → Prop} (hAt : TAt w tb cap F M) (hG : TG M cap) (s : ByteArray) (hs : s.size ≤ 1000000) :
    Calls Tryz.prog 14 #[.pointer (some ⟨tb, 0, none⟩), .string s] w fun e w' => e = .returned (.tuple #[statV (statN M s).1, .int .i64 (statN M s).2]) ∧ Below w.heap.size w w' := by
  obtain ⟨nb, P, E, V, h, hFt⟩ := hAt
  have hb0 : Below w.heap.size w (w.alloc (.cells #[.int .i64 0, .int .i64 0, .int .i64 0, .int .i64 0] 49)) := (Below.refl _ w).alloc (Nat.le_refl _) _
  have HB0 := Lib.hid hb0
  have OB : Hid ((w.alloc (.cells #[.int .i64 0, .int .i64 0, .int .i64 0, .int .i64 0] 49)).heap[w.heap.size]? = some (.cells #[.int .i64 0, .int .i64 0, .int .i64 0, .int .i64 0] 49 (0, 0))) := Lib.hid (blk_new rfl)
  have HF := Lib.hid (look_any (h.below hb0) s hs)
  have HT := Lib.hid h; have HG := Lib.hid hG
  have HW : Hid (statN M s = match lookN M s with
    | .inr c => ((0, 0, 0, 0), c)
    | .inl i => (((i : Int), (if isDir M i then 2 else 1), lkN M i, ((datN M i).length : Int)), 0)) := Lib.hid rfl
  clear hFt h hG hs hb0
  cases hq : lookN M s with
  | inr c =>
    have hc := look_code hq
    have HRES : Hid (statN M s = ((0, 0, 0, 0), c)) := Lib.hid (by rw [HW.out, hq])
    rw [hq] at HF
    have hc2 : (c != 0) = true := by simp [hc]
    clear hq hc HW
    unfold leadV at HF
    go_enter Tryz.func14, Tryz.ntmps14
    go_wp2_with fail
    generalize w.alloc (.cells #[.int .i64 0, .int .i64 0, .int .i64 0, .int .i64 0] 49) = w0 at *
    refine HF.out.mono ?_
    rintro e w1 ⟨rfl, hb1⟩
    have ob := (hb1.block _ (blk_lt OB.out)).trans OB.out
    have OB1 := Lib.hid ob
    have HB1 := Lib.hid (below_call HB0.out hb1 (Nat.le_refl _))
    have d0 := cell_blk_some ob (i := 0) rfl
    have d1 := cell_blk_some ob (i := 1) rfl
    have d2 := cell_blk_some ob (i := 2) rfl
    have d3 := cell_blk_some ob (i := 3) rfl
    have f0 := free_blk (i := 0) ob
    have f1 := free_blk (i := 1) ob
    have f2 := free_blk (i := 2) ob
    have f3 := free_blk (i := 3) ob
    clear hb1 HF ob OB
    go_wp2_with fail
    have hfin := blk_set (i := 3) (blk_set (i := 2) (blk_set (i := 1) (blk_set (i := 0) OB1.out (.int .i64 0)) (.int .i64 0)) (.int .i64 0)) (.int .i64 0)
    refine bodyPost_ret (results_row_tmp rfl _ _ w.heap.size _ _ _ _ rfl hfin Tryz.underlying49 rfl (by kernel_rfl)) rfl ?_
    exact ⟨by rw [HRES.out]; rfl, (((HB1.out.setCell (Nat.le_refl _) _).setCell (Nat.le_refl _) _).setCell (Nat.le_refl _) _).setCell (Nat.le_refl _) _⟩
  | inl i =>
    have hi := look_isin HT.out hq
    obtain ⟨nd, hm⟩ := Option.isSome_iff_exists.1 hi
    obtain ⟨b, hp, _⟩ := HT.out.at_ hm
    have HLV : leadV P (.inl i) = .tuple #[.pointer (some ⟨b, 0, none⟩), .int .i64 0] := by show Value.tuple #[nptr (P i), _] = _; rw [hp]; rfl
    have hres : statN M s = (((i : Int), (if isDir M i then 2 else 1), nd.links, (nd.data.length : Int)), 0) := by rw [HW.out, hq, ← lkN_of hm, ← datN_of hm]
    rw [hq, HLV] at HF
    have HM := Lib.hid hm; have HP := Lib.hid hp; have HI := Lib.hid hi; have HRES := Lib.hid hres
    clear hq hi hm hp HLV HW hres
    go_enter Tryz.func14, Tryz.ntmps14
    go_wp2_with fail
    generalize w.alloc (.cells #[.int .i64 0, .int .i64 0, .int .i64 0, .int .i64 0] 49) = w0 at *
    refine HF.out.mono ?_
    rintro e w1 ⟨rfl, hb1⟩
    have ob := (hb1.block _ (blk_lt OB.out)).trans OB.out
    have OB1 := Lib.hid ob
    have HB1 := Lib.hid (below_call HB0.out hb1 (Nat.le_refl _))
    have HD := Lib.hid (dir_any (HT.out.below HB1.out) HI.out)
    rw [HP.out] at HD
    unfold nptr at HD
    have hn1 := (HT.out.below HB1.out).node i b nd HP.out HM.out
    have hd1 := (HT.out.below HB1.out).data i nd HM.out
    obtain ⟨va, vc, hva⟩ := own_shape hd1
    rw [hva] at hn1
    have c0 := cell_blk_some hn1 (i := 0) rfl
    have c2 := cell_blk_some hn1 (i := 2) rfl
    have c3 := cell_blk_some hn1 (i := 3) rfl
    have d0 := cell_blk_some ob (i := 0) rfl
    have d1 := cell_blk_some ob (i := 1) rfl
    have d2 := cell_blk_some ob (i := 2) rfl
    have d3 := cell_blk_some ob (i := 3) rfl
    have f0 := free_blk (i := 0) ob
    have f1 := free_blk (i := 1) ob
    have f2 := free_blk (i := 2) ob
    have f3 := free_blk (i := 3) ob
    clear hb1 HF ob OB hn1 hd1 hva
    generalize isDir M i = di at *
    cases di
    · go_wp2_with fail
      refine HD.out.mono ?_
      rintro e w2 ⟨rfl, hw2⟩
      obtain rfl := hw2.symm
      go_wp2_with fail
      go_region_law (fail)
      all_goals
        go_wp2_with fail
        have hfin := blk_set (i := 3) (blk_set (i := 2) (blk_set (i := 1) (blk_set (i := 0) OB1.out (.int .i64 i)) (.int .i64 1)) (.int .i64 nd.links)) (.int .i64 nd.data.length)
        refine bodyPost_ret (results_row_tmp rfl _ _ w.heap.size _ _ _ _ rfl hfin Tryz.underlying49 rfl (by kernel_rfl)) rfl ?_
        exact ⟨by rw [HRES.out]; rfl, below_drewN ((((HB1.out.setCell (Nat.le_refl _) _).setCell (Nat.le_refl _) _).setCell (Nat.le_refl _) _).setCell (Nat.le_refl _) _) 1⟩
    · go_wp2_with fail
      refine HD.out.mono ?_
      rintro e w2 ⟨rfl, hw2⟩
      obtain rfl := hw2.symm
      go_wp2_with fail
      go_region_law (fail)
      all_goals
        go_wp2_with fail
        have hfin := blk_set (i := 3) (blk_set (i := 2) (blk_set (i := 1) (blk_set (i := 0) OB1.out (.int .i64 i)) (.int .i64 2)) (.int .i64 nd.links)) (.int .i64 nd.data.length)
        refine bodyPost_ret (results_row_tmp rfl _ _ w.heap.size _ _ _ _ rfl hfin Tryz.underlying49 rfl (by kernel_rfl)) rfl ?_
        exact ⟨by rw [HRES.out]; rfl, below_drewN ((((HB1.out.setCell (Nat.le_refl _) _).setCell (Nat.le_refl _) _).setCell (Nat.le_refl _) _).setCell (Nat.le_refl _) _) 1⟩
end
end Go.Proofs.YtoofcnehoffllaaGreat

namespace Go.Proofs.YtoofcnehoffllaaGreat
open Go.RowKit

section
variable {w : World} {mb : Nat} {f : ByteArray → Option Value}
theorem sortsA (m : Nat) : AnyZ.SortsIn Tryz.prog Tryz.sortedA_ren Fence.wide m :=
  ⟨fun blk off cap ss W hH hblk hsz => callsIn_wide.2 (AnyM.slices_Sort_string Tryz.sortS blk off cap ss W hH hblk hsz), fun p cap W => callsIn_wide.2 (AnyM.slices_Sort_string_none Tryz.sortS p cap W)⟩
theorem keys_any (m : Option Nat) (w : World) : Calls Tryz.prog 40 #[.map m] w fun e w' => e = .returned (.func (.func 66) #[] #[.pointer (some ⟨w.heap.size, 0, none⟩)]) ∧ w' = w.alloc (.cells #[.map m] 69) :=
  (callsIn_wide (n := 5)).1 (AnyZ.keys_in Tryz.keysA Fence.wide 5 trivial rfl m w)
/-- The keys of a map, rising. -/
theorem sorted_any (h : MapIs Value.string w mb f) (hw : ∀ k, (f k).isSome = true → k.size ≤ maxLen) {l : List ByteArray} (hn : l.Nodup) (hl : ∀ k, k ∈ l ↔ (f k).isSome = true) (hmax : l.length ≤ 1000000) :
    Calls Tryz.prog 39 #[.func (.func 66) #[] #[.pointer (some ⟨w.heap.size, 0, none⟩)]] (w.alloc (.cells #[.map (some mb)] 69)) fun e w' => ∃ v, e = .returned v ∧ w'.ownsRow (w.heap.size + 1) 9 1 v (sortS l).length ((sortS l).map Value.string) ∧ Below (w.heap.size + 1) (w.alloc (.cells #[.map (some mb)] 69)) w' := by
  obtain ⟨D0, hown, hp, hsz⟩ := h.ownsS (P := Tryz.prog) (K := 9) (t := 69) Tryz.underlying9 Tryz.underlying69 zero_node hw hn hl (by unfold maxLen; omega)
  have hseq : SeqGives Fence.wide 2 Tryz.prog 66 #[.pointer (some ⟨w.heap.size, 0, none⟩)] encStr (fun ss => ss.Perm (strKeys D0)) (Maps.size D0) (w.alloc (.cells #[.map (some mb)] 69)) :=
    AnyZ.keys_gives (ρ := Tryz.keysA_ren) { Tryz.keysA with } Fence.wide _ trivial rfl (by omega) w.heap.size mb l.length D0 _ (by simp) (by simp) (hown.alloc _)
  have cS := AnyZ.sorted_in Tryz.sortedA Fence.wide 5 trivial trivial trivial trivial rfl (by omega) (sortsA _) (enters_of Tryz.func49 (by kernel_rfl) rfl) 66 #[.pointer (some ⟨w.heap.size, 0, none⟩)] trivial (enters_of Tryz.func66 (by kernel_rfl) rfl) _ _ (by unfold maxLen; omega) (by omega) _ hseq
  change CallsIn _ _ Tryz.prog 39 _ _ _ at cS
  refine (callsIn_wide.1 cS).mono ?_
  rintro e w' ⟨v, ss, rfl, hs, hrow, hnil, hb⟩
  have hpl : ss.Perm (l.map (·.data.toList)) := hs.trans hp.symm
  have hsl : (ss.mergeSort fun x y => decide (x ≤ y)).map encStr = (sortS l).map Value.string := by
    rw [← encS', show (ss.mergeSort fun x y => decide (x ≤ y)) = (l.map (·.data.toList)).mergeSort fun x y => decide (x ≤ y) from mergeSort_of_perm hpl]
  rw [hsl, hpl.length_eq, List.length_map] at hrow
  have hsz1 : (w.alloc (.cells #[.map (some mb)] 69)).heap.size = w.heap.size + 1 := by simp
  rw [hsz1] at hrow hb
  refine ⟨v, rfl, ?_, hb⟩
  rw [sortS_length]
  exact hrow
def strV : Value → ByteArray
  | .string s => s
  | _ => ⟨#[]⟩
theorem MapIs.keys (h : MapIs Value.string w mb f) : ∃ l : List ByteArray, l.Nodup ∧ ∀ k, k ∈ l ↔ (f k).isSome = true := by
  obtain ⟨es, c, hm, hs, h1, h2⟩ := h
  have hpw := ((MapKept.stamped_iff es c).1 hs).2.2
  refine ⟨es.toList.map fun e => strV e.key, ?_, fun k => ?_⟩
  · rw [List.Nodup, List.pairwise_map]
    refine hpw.imp_of_mem fun {a b} ha hb hne e => hne ?_
    obtain ⟨k, hk, _⟩ := h1 a ha
    obtain ⟨k', hk', _⟩ := h1 b hb
    rw [hk, hk'] at e ⊢
    exact congrArg _ e
  · rw [List.mem_map]
    constructor
    · rintro ⟨e, he, rfl⟩
      obtain ⟨k, hk, hf⟩ := h1 e he
      rw [hk]
      show (f k).isSome = true
      rw [hf]; rfl
    · intro hk
      obtain ⟨v, hv⟩ := Option.isSome_iff_exists.1 hk
      obtain ⟨e, he, hek, _⟩ := h2 k v hv
      exact ⟨e, he, by rw [hek]; rfl⟩
end
/-- A directory's names, rising. -/
def ListIs (M : TM) (i : Nat) (l : List ByteArray) : Prop := (l.map (·.data.toList)).Pairwise (· ≤ ·) ∧ l.Nodup ∧ ∀ s, s ∈ l ↔ (entN M i s).isSome = true
theorem sorted_eq {l m : List ByteArray} (h : l.Perm m) (h1 : (l.map (·.data.toList)).Pairwise (· ≤ ·)) (h2 : (m.map (·.data.toList)).Pairwise (· ≤ ·)) : l = m := by
  rw [← sortS_eq (List.Perm.refl l) h1, ← sortS_eq (List.Perm.refl m) h2]
  exact sortS_of_perm h
theorem ListIs.eq {M : TM} {i : Nat} {l m : List ByteArray} (h : ListIs M i l) (h' : ListIs M i m) : l = m :=
  sorted_eq ((List.perm_ext_iff_of_nodup h.2.1 h'.2.1).2 fun s => (h.2.2 s).trans (h'.2.2 s).symm) h.1 h'.1
def listC (M : TM) (s : ByteArray) : Int := match lookN M s with
  | .inr c => c
  | .inl i => if isDir M i then 0 else 20
def ListOf (M : TM) (s : ByteArray) (l : List ByteArray) : Prop := match lookN M s with
  | .inr _ => l = []
  | .inl i => if isDir M i = true then ListIs M i l else l = []
/-- All paths, rising. -/
def WalkIs (M : TM) (l : List ByteArray) : Prop := (l.map (·.data.toList)).Pairwise (· ≤ ·) ∧ ∃ LL, BelowIs M 2 LL ∧ l.Perm (LL.map (pathAt M))
theorem WalkIs.eq {M : TM} {l m : List ByteArray} (h : WalkIs M l) (h' : WalkIs M m) : l = m := by
  obtain ⟨h1, LL, hL, hp⟩ := h
  obtain ⟨h1', LL', hL', hp'⟩ := h'
  refine sorted_eq (hp.trans ((((List.perm_ext_iff_of_nodup hL.1 hL'.1).2 fun s => (hL.2 s).trans (hL'.2 s).symm).map _).trans hp'.symm)) h1 h1'
section
variable {w : World} {tb nb cap : Nat} {P E : Nat → Option Nat} {V : Nat → Value} {M : TM}
theorem TG.ents_le (hG : TG M cap) (hc : cap ≤ 201) {i : Nat} {l : List ByteArray} (hn : l.Nodup) (hl : ∀ s ∈ l, (entN M i s).isSome = true) : l.length ≤ 20100 := by
  obtain ⟨L, hL, hl'⟩ := hG.nms
  have h1 := nodup_le (l := l.map fun s => (i, s)) (m := L) (nodup_on hn fun a _ b _ e => by injection e) fun x hx => by
    obtain ⟨s, hs, rfl⟩ := List.mem_map.1 hx
    exact (hL.2 _).2 (hl s hs)
  rw [List.length_map] at h1
  have := hG.names_le hc hL hl'
  omega
set_option maxHeartbeats 2000000 in
set_option maxRecDepth 100000 in
theorem list_any {F : Nat → Prop} (hAt : TAt w tb cap F M) (hG : TG M cap) (hS : TS M) (s : ByteArray) (hs : s.size ≤ 1000000) :
    Calls Tryz.prog 16 #[.pointer (some ⟨tb, 0, none⟩), .string s] w fun e w' => ∃ v l, e = .returned (.tuple #[v, .int .i64 (listC M s)]) ∧ ListOf M s l ∧ w'.ownsRow w.heap.size 9 1 v l.length (l.map Value.string) ∧ Below w.heap.size w w' := by
  obtain ⟨nb, P, E, V, h, hFt⟩ := hAt
  have HF := Lib.hid (look_any h s hs)
  have HT := Lib.hid h; have HG := Lib.hid hG; have HSS := Lib.hid hS
  have HC : Hid (listC M s = match lookN M s with
    | .inr c => c
    | .inl i => if isDir M i then 0 else 20) := Lib.hid rfl
  have HO : Hid (∀ l, ListOf M s l = match lookN M s with
    | .inr _ => l = []
    | .inl i => if isDir M i = true then ListIs M i l else l = []) := Lib.hid fun _ => rfl
  clear hFt h hG hs hS
  cases hq : lookN M s with
  | inr c =>
    have hc := look_code hq
    have HRES : Hid (listC M s = c ∧ ListOf M s []) := Lib.hid ⟨by rw [HC.out, hq], by rw [HO.out, hq]⟩
    rw [hq] at HF
    have hc2 : (c != 0) = true := by simp [hc]
    clear hq hc HC HO
    unfold leadV at HF
    go_enter Tryz.func16, Tryz.ntmps16
    go_wp2_with fail
    refine HF.out.mono ?_
    rintro e w1 ⟨rfl, hb1⟩
    have HB1 := Lib.hid hb1
    clear hb1 HF
    go_wp2_with fail
    go_ret2
    exact ⟨.slice none 0 0, [], by rw [HRES.out.1]; rfl, HRES.out.2, ⟨rfl, .inl ⟨rfl, rfl⟩⟩, HB1.out⟩
  | inl i =>
    have hi := look_isin HT.out hq
    obtain ⟨nd, hm⟩ := Option.isSome_iff_exists.1 hi
    obtain ⟨b, hp, _⟩ := HT.out.at_ hm
    have HLV : leadV P (.inl i) = .tuple #[.pointer (some ⟨b, 0, none⟩), .int .i64 0] := by show Value.tuple #[nptr (P i), _] = _; rw [hp]; rfl
    have HC2 : Hid (listC M s = if isDir M i then 0 else 20) := Lib.hid (by rw [HC.out, hq])
    have HO2 : Hid (∀ l, ListOf M s l = if isDir M i = true then ListIs M i l else l = []) := Lib.hid fun l => by rw [HO.out, hq]
    rw [hq, HLV] at HF
    have HM := Lib.hid hm; have HP := Lib.hid hp; have HI := Lib.hid hi
    clear hq hi hm hp HLV HC HO
    go_enter Tryz.func16, Tryz.ntmps16
    go_wp2_with fail
    refine HF.out.mono ?_
    rintro e w1 ⟨rfl, hb1⟩
    have h1 := HT.out.below hb1
    have HD := Lib.hid (dir_any h1 HI.out)
    rw [HP.out] at HD
    unfold nptr at HD
    have HB1 := Lib.hid hb1
    cases hdi : isDir M i with
    | false =>
      have HRES : Hid (listC M s = 20 ∧ ListOf M s []) := Lib.hid ⟨by rw [HC2.out, hdi]; rfl, by rw [HO2.out, hdi]; rfl⟩
      rw [hdi] at HD
      clear hb1 h1 hdi HF HC2 HO2
      go_wp2_with fail
      refine HD.out.mono ?_
      rintro e w2 ⟨rfl, hw2⟩
      obtain rfl := hw2.symm
      go_wp2_with fail
      go_ret2
      exact ⟨.slice none 0 0, [], by rw [HRES.out.1]; rfl, HRES.out.2, ⟨rfl, .inl ⟨rfl, rfl⟩⟩, HB1.out⟩
    | true =>
      obtain ⟨nd', f, hm', hf2⟩ := isDir_there hdi
      obtain rfl : nd = nd' := by have := HM.out; rw [hm'] at this; exact (Option.some.inj this).symm
      obtain ⟨eb, hE, hMp⟩ : ∃ eb, E i = some eb ∧ MapIs Value.string w1 eb (entF P f) := by
        have := h1.ents i nd hm'
        rw [hf2] at this
        exact this
      have hef := ent_fun hm' hf2
      have hb := h1.node i b nd HP.out hm'
      have c1 := cell_blk_some hb (i := 1) rfl
      rw [hE] at c1
      have hfe : ∀ k, ((entF P f) k).isSome = (entN M i k).isSome := fun k => by rw [hef]; unfold entF; cases f k <;> rfl
      obtain ⟨l, hn, hl⟩ := hMp.keys
      have hmax := HG.out.ents_le HT.out.capB hn fun s hs => by rw [← hfe]; exact (hl s).1 hs
      have HK := Lib.hid (keys_any (some eb) w1)
      have HSO := Lib.hid (sorted_any hMp (fun k hk => by
        rw [hfe] at hk
        obtain ⟨j, hj⟩ := Option.isSome_iff_exists.1 hk
        have := (nameE_len (HSS.out.nam i k j hj)).1
        have := Lib.size_eq k
        unfold maxLen
        omega) hn hl (by omega))
      have HLI : Hid (ListIs M i (sortS l)) := Lib.hid ⟨sortS_sorted l, (sortS_perm l).symm.nodup hn, fun s => by rw [(sortS_perm l).mem_iff, hl, hfe]⟩
      have HRES : Hid (listC M s = 0 ∧ ListOf M s (sortS l)) := Lib.hid ⟨by rw [HC2.out, hdi]; rfl, by rw [HO2.out, hdi]; exact HLI.out⟩
      rw [hdi] at HD
      clear hb1 h1 hdi HF HC2 HO2 hb hm' hf2 hE hMp hef hfe hn hl
      go_wp2_with fail
      refine HD.out.mono ?_
      rintro e w2 ⟨rfl, hw2⟩
      obtain rfl := hw2.symm
      go_wp2_with fail
      refine HK.out.mono ?_
      rintro e w3 ⟨rfl, rfl⟩
      go_wp2_with fail
      refine HSO.out.mono ?_
      rintro e w4 ⟨v, rfl, ho, hb4⟩
      have hb4' := hb4.mono (show w1.heap.size ≤ w1.heap.size + 1 by omega)
      have HO4 := Lib.hid ho; have HB4 := Lib.hid (((Below.refl _ w1).alloc (Nat.le_refl _) _).trans hb4')
      clear ho hb4 hb4' HSO HK
      go_wp2_with fail
      go_ret2
      exact ⟨v, sortS l, by rw [HRES.out.1]; rfl, HRES.out.2, own_mono HO4.out (Nat.le_trans HB1.out.size (by omega)), below_call HB1.out HB4.out (Nat.le_refl _)⟩
end
end Go.Proofs.YtoofcnehoffllaaGreat
