/- Walk of Walk. -/
/- Calls at names of the root; the document's example, plainly. -/
import Derived.Test.YtoofcnehoffllaaGreatT28
import Derived.Laws.EntriesVeiled
import Derived.Test.YtoofcnehoffllaaGreatT31
namespace Go.Proofs.YtoofcnehoffllaaGreat
open Go.RowKit

section
variable {w : World} {tb nb cap : Nat} {P E : Nat → Option Nat} {V : Nat → Value} {M : TM}
set_option maxHeartbeats 2000000 in
set_option maxRecDepth 100000 in
theorem walk_any {F : Nat → Prop} (hAt : TAt w tb cap F M) (hG : TG M cap) (hS : TS M) :
    Calls Tryz.prog 24 #[.pointer (some ⟨tb, 0, none⟩)] w fun e w' => ∃ v l, e = .returned v ∧ WalkIs M l ∧ l.length ≤ 20100 ∧ w'.ownsRow w.heap.size 9 1 v l.length (l.map Value.string) ∧ Below w.heap.size w w' := by
  obtain ⟨nb, P, E, V, h, hFt⟩ := hAt
  obtain ⟨w1, hw1⟩ : ∃ w1, w1 = (w.alloc (.cells #[.slice none 0 0] 54)).alloc (.cells #[.func (.func 48) #[] #[.pointer (some ⟨w.heap.size, 0, none⟩), .pointer (some ⟨w.heap.size + 1, 0, none⟩)]] 108) := ⟨_, rfl⟩
  have hb1 : Below w.heap.size w w1 := by rw [hw1]; exact ((Below.refl _ w).alloc (Nat.le_refl _) _).alloc (by simp) _
  have ho : w1.heap[w.heap.size]? = some (.cells #[.slice none 0 0] 54 (0, 0)) := by rw [hw1]; exact blk_old (blk_new rfl)
  have hv : w1.heap[w.heap.size + 1]? = some (.cells #[.func (.func 48) #[] #[.pointer (some ⟨w.heap.size, 0, none⟩), .pointer (some ⟨w.heap.size + 1, 0, none⟩)]] 108 (0, 0)) := by rw [hw1]; exact blk_new (by simp)
  have h1 := h.below hb1
  obtain ⟨nd2, f2, hm2, _⟩ := isDir_there hG.ok.root
  obtain ⟨b2, hp2, _⟩ := h1.at_ hm2
  have h2c := (hG.ok.low 2 nd2 hm2).2
  obtain ⟨cs, hr, hz, hcs⟩ := h1.row
  have c0 := cell_blk_some h1.top (i := 0) rfl
  have c2 := cell_blk_some hr (hcs 2 h2c)
  rw [hp2] at c2
  have x1 := cell_blk_some hv (i := 0) rfl
  have hcap : (2 : Int) < (cap : Int) := by omega
  have hst : VSt w w.heap.size w.heap.size (w.heap.size + 1) M w1.drew (.slice none 0 0) [] := ⟨below_drewN hb1 1, ho, hv, ⟨rfl, .inl ⟨rfl, rfl⟩⟩, List.nodup_nil, fun l hl => by cases hl⟩
  have hc := visit_any (vb := w.heap.size + 1) hG hS rfl (Nat.le_refl _) (by omega) h 256 [] 2 w1.drew (.slice none 0 0) [] rfl (by simp) hG.ok.root hst (fun l hl => by cases hl)
  rw [← path_root, hp2] at hc
  unfold nptr at c2 hc
  rw [Option.map_some] at c2 hc
  have HC := Lib.hid hc; have HG := Lib.hid hG; have HCB := Lib.hid h.capB
  clear hc hst hcs hr h1 hb1 ho hv h hFt hm2 hp2 hG hS
  go_enter Tryz.func24, Tryz.ntmps24
  go_wp2_with fail
  try rw [← hw1]
  clear hw1
  go_still_tail 7, (by kernel_rfl)
  change wpList _ _ _ _ _ w1.drew
  go_wp2_with fail
  refine HC.out.mono ?_
  rintro e w2 ⟨rfl, LL, v2, hB, hst2, -⟩
  have hle : ([] : List (List ByteArray)) ++ LL.map (([] : List ByteArray) ++ ·) = LL := by simp
  rw [hle] at hst2
  have hcnt := HG.out.paths_le HCB.out hst2.nod hst2.ok
  obtain ⟨va, vc, rfl⟩ := own_shape hst2.own
  have y0 := cell_blk_some hst2.out (i := 0) rfl
  have hown := hst2.own
  obtain ⟨N, hN⟩ : ∃ N, N = LL.length := ⟨_, rfl⟩
  obtain ⟨L, hL⟩ : ∃ L, L = LL.map (pathAt M) := ⟨_, rfl⟩
  have hLN : L.length = N := by rw [hL, List.length_map, hN]
  rw [← hN, ← hL, ← hLN] at hown
  have hout := hst2.out
  rw [← hN, ← hLN] at y0 hout
  have HSO := Lib.hid (sortS_own hown (by omega))
  have hoff := own_off hown hout (by decide)
  have HB := Lib.hid hB; have HBEL := Lib.hid hst2.bel; have HOUT := Lib.hid hout; have HL := Lib.hid hL; have HOFF := Lib.hid hoff; have HOWN := Lib.hid hown
  have HCNT : Hid (L.length ≤ 20100) := Lib.hid (by omega)
  clear hst2 hout hB hown hoff hL hle hN hLN hcnt HC
  go_wp2_with fail
  refine HSO.out.mono ?_
  rintro e w3 ⟨rfl, ho3, hf3⟩
  have hout3 := (hf3.block w.heap.size (blk_lt HOUT.out) HOFF.out).trans HOUT.out
  have z0 := cell_blk_some hout3 (i := 0) rfl
  have HO3 := Lib.hid ho3; have HF3 := Lib.hid hf3
  clear ho3 hf3 hout3 HSO y0
  go_wp2_with fail
  go_ret
  have hoz := own_mono HO3.out (Nat.le_refl _)
  refine ⟨.slice va L.length vc, sortS L, rfl, ⟨sortS_sorted L, LL, HB.out, by rw [← HL.out]; exact sortS_perm L⟩, by rw [sortS_length]; exact HCNT.out, by rw [sortS_length]; exact hoz, ?_⟩
  exact HBEL.out.trans (HF3.out.toBelow (by have := HBEL.out.size; exact this) fun x hx => (World.ownsRow.lt HOWN.out x hx).1)
end
end Go.Proofs.YtoofcnehoffllaaGreat

namespace Go.Proofs.YtoofcnehoffllaaGreat
open Go.RowKit

section
variable {M : TM} {cap : Nat}
theorem one_name {x : ByteArray} (hx : nameE x.data.toList = 0) : NamesOk ([] ++ [x]) ∧ (pathS ([] ++ [x]) false).size ≤ 255 ∧ longN ([] ++ [x]) ≤ 15 := by
  have h1 := (nameE_len hx).1
  have h2 := Lib.size_eq x
  have h3 := path_size ([] ++ [x]) false
  have h4 : longN ([] ++ [x]) = 1 + (x.size : Int) := by rw [List.nil_append, longN_cons]; simp [longN]
  refine ⟨fun y hy => ?_, ?_, by omega⟩
  · rw [List.nil_append, List.mem_singleton] at hy; rw [hy]; exact hx
  · rw [h4] at h3; simp at h3; simp; omega
theorem root_lead : leadN M 2 [] = .inl 2 := rfl
theorem root_make (h : Good M cap) {x : ByteArray} (hx : nameE x.data.toList = 0) (hn : entN M 2 x = none) {j : Nat} {dir : Bool} (hj : leastN M cap cap 2 = some j) : makeN M cap (pathS [x] false) dir = ((j : Int), 0, addM M j (freshNd dir) 2 x) := by
  obtain ⟨a, b, c⟩ := one_name hx
  obtain ⟨p1, p2, p3⟩ := par_path (d := false) a b
  have hd := (path_split a (by simp) b).2.2
  rw [List.nil_append] at p1 p2 p3 hd
  rw [make_at p1 p2 p3 root_lead h.1.ok.root hn (fun h => by rw [hd] at h; cases h) (fun _ => by omega), hj]
theorem root_full (h : Good M cap) {x : ByteArray} (hx : nameE x.data.toList = 0) (hn : entN M 2 x = none) {dir : Bool} (hj : leastN M cap cap 2 = none) : makeN M cap (pathS [x] false) dir = (0, 23, M) := by
  obtain ⟨a, b, c⟩ := one_name hx
  obtain ⟨p1, p2, p3⟩ := par_path (d := false) a b
  have hd := (path_split a (by simp) b).2.2
  rw [List.nil_append] at p1 p2 p3 hd
  rw [make_at p1 p2 p3 root_lead h.1.ok.root hn (fun h => by rw [hd] at h; cases h) (fun _ => by omega), hj]
theorem root_gone {x : ByteArray} (hx : nameE x.data.toList = 0) {i : Nat} {dir : Bool} (he : entN M 2 x = some i) (hw : wrongN M i dir = 0) : goneN M (pathS [x] false) dir = (0, dropT M 2 x i) := by
  obtain ⟨a, b, c⟩ := one_name hx
  obtain ⟨p1, p2, p3⟩ := par_path (d := false) a b
  have hd := (path_split a (by simp) b).2.2
  rw [List.nil_append] at p1 p2 p3 hd
  exact gone_at p1 p2 p3 root_lead he hw (fun h => by rw [hd] at h; cases h)
theorem root_none (h : Good M cap) {x : ByteArray} (hx : nameE x.data.toList = 0) {dir : Bool} (he : entN M 2 x = none) : goneN M (pathS [x] false) dir = (2, M) := by
  obtain ⟨a, b, c⟩ := one_name hx
  obtain ⟨p1, p2, p3⟩ := par_path (d := false) a b
  rw [List.nil_append] at p1 p2 p3
  exact gone_none p1 p2 p3 root_lead h.1.ok.root he
theorem root_look {x : ByteArray} (hx : nameE x.data.toList = 0) {i : Nat} (he : entN M 2 x = some i) : lookN M (pathS [x] false) = .inl i := by
  obtain ⟨a, b, c⟩ := one_name hx
  rw [List.nil_append] at a b
  have h2 : isDir M 2 = true := ent_dir he
  rw [look_path a (by simp) b, (lead_goE [x] 2 i).2 (by rw [goE_cons, he]; rfl)]
  rfl
theorem wrong_file {i : Nat} (hd : isDir M i = false) : wrongN M i false = 0 := by unfold wrongN; rw [if_neg (by decide), hd]; rfl
theorem wrong_dir {i : Nat} (hd : isDir M i = true) (hn : ∀ t, entN M i t = none) : wrongN M i true = 0 := by
  unfold wrongN
  rw [if_pos rfl, hd, if_pos rfl]
  have : hasN M i = false := by
    unfold hasN
    simp only [decide_eq_false_iff_not]
    rintro ⟨s, j, h⟩
    rw [hn s] at h; cases h
  rw [this]; rfl
theorem ent_link {i p : Nat} {s : ByteArray} (hp : isDir M p = true) : entN (linkM M p s i) = putE (entN M) p s (some i) ∧ (∀ x, isDir (linkM M p s i) x = isDir M x) ∧ (∀ x, (linkM M p s i x).isSome = (M x).isSome) ∧ ∀ x, lkN (linkM M p s i) x = if x = i then (if (M i).isSome then lkN M i + 1 else 0) else lkN M x := by
  have hpd : isDir (setN M i (lkN M i + 1) (datN M i)) p = true := isDir_setN.trans hp
  have hee : entN (setN M i (lkN M i + 1) (datN M i)) = entN M := by funext x t; exact entN_setN
  obtain ⟨ndp, fp, hmp, hfp⟩ := isDir_there hpd
  refine ⟨?_, fun x => by unfold linkM; rw [isDir_setE hmp hfp, isDir_setN], fun x => by unfold linkM; rw [some_setE hmp, some_setN], fun x => by unfold linkM; rw [setE_same.1, link_same.1]⟩
  unfold linkM
  have := ent_setE (s := s) (o := some i) hpd
  rw [hee] at this
  exact this
/-- What a drop leaves. -/
theorem drop_some {i p : Nat} {s : ByteArray} {nd : Nd} (hm : M i = some nd) (hs : entN M p s = some i) : ∀ x, (dropT M p s i x).isSome = if x = i then decide (nd.links ≠ 1) else (M x).isSome := by
  have hpd := ent_dir hs
  obtain ⟨ndp, fp, hmp, hfp⟩ := isDir_there hpd
  have hdr : dropT M p s i = dropM M p (entN M p) s i nd := by unfold dropT; rw [hm]
  intro x
  rw [hdr]
  unfold dropM
  by_cases h0 : nd.links - 1 = 0
  · rw [if_pos h0]
    unfold killM
    by_cases e : x = i
    · rw [if_pos e, if_pos e, decide_eq_false (by omega)]; rfl
    · rw [if_neg e, if_neg e, some_setN, some_setE hmp]
  · rw [if_neg h0, some_setN, some_setE hmp]
    by_cases e : x = i
    · rw [if_pos e, e, hm, decide_eq_true (by omega)]; rfl
    · rw [if_neg e]
theorem drop_lk {i p : Nat} {s : ByteArray} {nd : Nd} (hm : M i = some nd) (hs : entN M p s = some i) : ∀ x, (dropT M p s i x).isSome = true → lkN (dropT M p s i) x = (if x = i then nd.links - 1 else lkN M x) ∧ datN (dropT M p s i) x = datN M x := by
  have hpd := ent_dir hs
  obtain ⟨ndp, fp, hmp, hfp⟩ := isDir_there hpd
  have hdr : dropT M p s i = dropM M p (entN M p) s i nd := by unfold dropT; rw [hm]
  have hd1 : nd.data = datN (setE M p (updE (entN M p) s none)) i := by rw [setE_same.2, datN_of hm]
  have key : ∀ x, lkN (setN (setE M p (updE (entN M p) s none)) i (nd.links - 1) nd.data) x = (if x = i then nd.links - 1 else lkN M x) ∧ datN (setN (setE M p (updE (entN M p) s none)) i (nd.links - 1) nd.data) x = datN M x := fun x => by
    rw [hd1, link_same.1, link_same.2, setE_same.1, setE_same.2]
    refine ⟨?_, rfl⟩
    by_cases e : x = i
    · rw [if_pos e, if_pos e, some_setE hmp, hm]; rfl
    · rw [if_neg e, if_neg e]
  intro x hx
  rw [hdr] at hx ⊢
  unfold dropM at hx ⊢
  by_cases h0 : nd.links - 1 = 0
  · rw [if_pos h0] at hx ⊢
    have hxi : x ≠ i := fun e => by rw [e] at hx; unfold killM at hx; rw [if_pos rfl] at hx; cases hx
    have := key x
    unfold lkN datN killM at *
    rw [if_neg hxi]
    exact this
  · rw [if_neg h0]
    exact key x
/-- All paths of a tree whose root has two files. -/
theorem walk_two {a b : ByteArray} {i j : Nat} (hab : a ≠ b) (ha : entN M 2 a = some i) (hb : entN M 2 b = some j) (hno : ∀ x, x ≠ a → x ≠ b → entN M 2 x = none) (hi : isDir M i = false) (hj : isDir M j = false) (hs : (pathS [a] false).data.toList ≤ (pathS [b] false).data.toList) {l : List ByteArray} (h : WalkIs M l) : l = [pathS [a] false, pathS [b] false] := by
  obtain ⟨h1, LL, hL, hp⟩ := h
  have ga : goE (entN M) 2 [a] = some i := by rw [goE_cons, ha]; rfl
  have gb : goE (entN M) 2 [b] = some j := by rw [goE_cons, hb]; rfl
  have hm : ∀ l', l' ∈ LL ↔ l' ∈ [[a], [b]] := fun l' => by
    rw [hL.2]
    constructor
    · rintro ⟨hn, hg⟩
      cases l' with
      | nil => exact absurd rfl hn
      | cons x r =>
        rw [goE_cons] at hg
        have key : ∀ {y k}, entN M 2 y = some k → isDir M k = false → ((entN M 2 y).bind fun j => goE (entN M) j r).isSome = true → r = [] := fun {y k} hy hk hg => by
          rw [hy] at hg
          obtain ⟨z, hz⟩ := Option.isSome_iff_exists.1 hg
          exact (goE_sub (ent_file hk) r z hz).1
        by_cases e1 : x = a
        · subst e1
          rw [key ha hi hg]; simp
        · by_cases e2 : x = b
          · subst e2
            rw [key hb hj hg]; simp
          · rw [hno x e1 e2] at hg; cases hg
    · intro h
      rcases List.mem_cons.1 h with rfl | h
      · exact ⟨by simp, by rw [ga]; rfl⟩
      · rw [List.mem_singleton] at h
        subst h
        exact ⟨by simp, by rw [gb]; rfl⟩
  have hpp := (List.perm_ext_iff_of_nodup hL.1 (by simp; exact hab)).2 hm
  have := hp.trans (hpp.map (pathAt M))
  rw [List.map_cons, List.map_cons, List.map_nil, pathAt_of ga, pathAt_of gb, hi, hj] at this
  exact sorted_eq this h1 (by simp; exact hs)
end
end Go.Proofs.YtoofcnehoffllaaGreat
