/- What is always so of a tree: names and links, all is reached. -/
import Derived.Test.YtoofcnehoffllaaT14
namespace Go.Proofs.Ytoofcnehoffllaa
open Go.RowKit

def lkN (M : TM) (i : Nat) : Int := match M i with | some nd => nd.links | none => 0
def datN (M : TM) (i : Nat) : List Int := match M i with | some nd => nd.data | none => []
/-- Where names lead, by entries alone. -/
def goE (e : EM) : Nat → List ByteArray → Option Nat
  | i, [] => some i
  | i, s :: l => (e i s).bind fun j => goE e j l
theorem ent_dir {M : TM} {i j : Nat} {s : ByteArray} (h : entN M i s = some j) : isDir M i = true := by
  unfold entN at h
  unfold isDir
  cases hm : M i with
  | none => rw [hm] at h; cases h
  | some nd =>
    rw [hm] at h
    show nd.ents.isSome = true
    cases hn : nd.ents with
    | none =>
      have h : (match nd.ents with | some f => f s | none => none) = some j := h
      rw [hn] at h; cases h
    | some f => rfl
theorem lead_goE {M : TM} : ∀ (l : List ByteArray) (i j : Nat), leadN M i l = .inl j ↔ goE (entN M) i l = some j
  | [], i, j => ⟨fun h => by injection h with h; rw [h]; rfl, fun h => by injection h with h; rw [h]; rfl⟩
  | s :: l, i, j => by
    rw [lead_step]
    show _ ↔ ((entN M i s).bind fun j => goE (entN M) j l) = some j
    cases hen : entN M i s with
    | none =>
      refine ⟨fun h => ?_, fun h => by cases h⟩
      split at h
      · cases h
      · cases h
    | some k =>
      rw [if_pos (ent_dir hen)]
      exact lead_goE l k j
theorem goE_append {e : EM} : ∀ (l m : List ByteArray) (i : Nat), goE e i (l ++ m) = (goE e i l).bind fun j => goE e j m
  | [], m, i => rfl
  | s :: l, m, i => by
    show ((e i s).bind fun j => goE e j (l ++ m)) = (((e i s).bind fun j => goE e j l)).bind fun j => goE e j m
    cases e i s with
    | none => rfl
    | some k => exact goE_append l m k
theorem goE_snoc {e : EM} {l : List ByteArray} {s : ByteArray} {i k : Nat} : goE e i (l ++ [s]) = some k ↔ ∃ j, goE e i l = some j ∧ e j s = some k := by
  rw [goE_append]
  cases goE e i l with
  | none => exact ⟨fun h => (by cases h), fun ⟨j, h, _⟩ => (by cases h)⟩
  | some j =>
    have hb : ((e j s).bind fun j => some j) = e j s := by cases e j s <;> rfl
    show ((e j s).bind fun j => some j) = some k ↔ _
    rw [hb]
    exact ⟨fun h => ⟨j, rfl, h⟩, fun ⟨j', h, h2⟩ => (by injection h with h; rw [h]; exact h2)⟩
theorem goE_mono {e e' : EM} (h : ∀ i s j, e i s = some j → e' i s = some j) : ∀ (l : List ByteArray) (i j : Nat), goE e i l = some j → goE e' i l = some j
  | [], i, j, hg => hg
  | s :: l, i, j, hg => by
    have hg : ((e i s).bind fun j => goE e j l) = some j := hg
    show ((e' i s).bind fun j => goE e' j l) = some j
    cases he : e i s with
    | none => rw [he] at hg; cases hg
    | some k =>
      rw [he] at hg
      rw [h i s k he]
      exact goE_mono h l k j hg
/-- What is always so of a tree. -/
structure TG (M : TM) (cap : Nat) : Prop where
  ok : TOk M cap
  noroot : ∀ p s, entN M p s ≠ some 2
  nms : ∃ L, Names (entN M) L ∧ ∀ i, (M i).isSome = true → i ≠ 2 → lkN M i = numL (entN M) L i
  lk : ∀ i, (M i).isSome = true → 1 ≤ lkN M i ∧ lkN M i ≤ 100 ∧ (isDir M i = true → lkN M i = 1 ∧ datN M i = [])
  byt : ∀ i, (datN M i).length ≤ 38400 ∧ ∀ x ∈ datN M i, 0 ≤ x ∧ x < 256
  reach : ∀ i, (M i).isSome = true → ∃ l, goE (entN M) 2 l = some i
section
variable {M : TM} {cap : Nat}
theorem lkN_of {i : Nat} {nd : Nd} (h : M i = some nd) : lkN M i = nd.links := by unfold lkN; rw [h]
theorem datN_of {i : Nat} {nd : Nd} (h : M i = some nd) : datN M i = nd.data := by unfold datN; rw [h]
theorem isDir_of {i : Nat} {nd : Nd} (h : M i = some nd) : isDir M i = nd.dir := by unfold isDir; rw [h]
theorem isDir_there {i : Nat} (h : isDir M i = true) : ∃ nd f, M i = some nd ∧ nd.ents = some f := by
  unfold isDir at h
  cases hm : M i with
  | none => rw [hm] at h; cases h
  | some nd =>
    rw [hm] at h
    have h : nd.ents.isSome = true := h
    obtain ⟨f, hf⟩ := Option.isSome_iff_exists.1 h
    exact ⟨nd, f, rfl, hf⟩
theorem ent_fun {p : Nat} {nd : Nd} {f : ByteArray → Option Nat} (hm : M p = some nd) (hf : nd.ents = some f) : entN M p = f := by
  funext s; rw [entN_of hm, hf]
/-- Two trees of the same nodes, all but the entries, links, data. -/
theorem TG.one (h : TG M cap) {i : Nat} (hd : lkN M i = 1) {p q : Nat} {s t : ByteArray} (h1 : entN M p s = some i) (h2 : entN M q t = some i) : q = p ∧ t = s := by
  obtain ⟨L, hL, hl⟩ := h.nms
  have hi := h.ok.ent p s i h1
  have h2' : i ≠ 2 := fun e => h.noroot p s (by rw [h1, e])
  have := hl i hi h2'
  rw [hd] at this
  exact num_one hL h1 (by omega) h2
theorem newM_good {cap : Nat} (hc : 5 ≤ cap) : TG newM cap := by
  have he : ∀ p s, entN newM p s = none := fun p s => by
    unfold entN newM
    by_cases e : p = 2
    · rw [if_pos e]
    · rw [if_neg e]
  have hs : ∀ i, (newM i).isSome = true → i = 2 := fun i h => by
    unfold newM at h
    split at h
    · assumption
    · cases h
  have hd : ∀ i, datN newM i = [] := fun i => by
    unfold datN newM
    by_cases e : i = 2
    · rw [if_pos e]
    · rw [if_neg e]
  refine ⟨newM_ok hc, fun p s => by rw [he]; simp, ⟨[], ⟨List.nodup_nil, fun x => by rw [he]; simp⟩, fun i h h2 => absurd (hs i h) h2⟩, fun i h => ?_, fun i => by rw [hd]; simp, fun i h => ⟨[], by rw [hs i h]; rfl⟩⟩
  rw [hs i h]
  exact ⟨by decide, by decide, fun _ => ⟨rfl, rfl⟩⟩
/-- How entries look behind a put. -/
theorem putE_eq {e : EM} {p : Nat} {s : ByteArray} {o : Option Nat} : (fun x t => if x = p then updE (e p) s o t else e x t) = putE e p s o := by
  funext x t
  unfold putE updE
  by_cases h1 : x = p
  · by_cases h2 : t = s
    · simp [h1, h2]
    · simp [h1, h2]
  · simp [h1]
theorem ent_setE {p : Nat} {s : ByteArray} {o : Option Nat} (hp : isDir M p = true) : entN (setE M p (updE (entN M p) s o)) = putE (entN M) p s o := by
  obtain ⟨nd, f, hm, hf⟩ := isDir_there hp
  rw [← putE_eq]
  funext x t
  rw [entN_setE hm hf]
theorem ent_add {i p : Nat} {dir : Bool} {s : ByteArray} (hp : isDir M p = true) (hn : M i = none) : entN (addM M i (freshNd dir) p s) = putE (entN M) p s (some i) := by
  obtain ⟨nd, f, hm, hf⟩ := isDir_there hp
  have hpi : p ≠ i := fun e => by rw [e, hn] at hm; cases hm
  funext x t
  by_cases e1 : x = i
  · rw [e1, putE_other (fun e => hpi e.1.symm), entN_of addM_i]
    unfold entN
    rw [hn]
    unfold freshNd
    cases dir <;> rfl
  · by_cases e2 : x = p
    · rw [e2, entN_of (addM_p hpi hm), hf]
      show updE f s (some i) t = _
      unfold updE putE
      rw [← ent_fun hm hf]
      by_cases e3 : t = s
      · simp [e3]
      · simp [e3]
    · rw [putE_other (fun e => e2 e.1)]
      unfold entN
      rw [addM_o e1 e2]
theorem some_add {i p x : Nat} {nd : Nd} {s : ByteArray} : (addM M i nd p s x).isSome = (if x = i then true else (M x).isSome) := by
  unfold addM
  by_cases e1 : x = i
  · rw [if_pos e1, if_pos e1]; rfl
  · rw [if_neg e1, if_neg e1]
    by_cases e2 : x = p
    · rw [if_pos e2, e2]; cases M p <;> rfl
    · rw [if_neg e2]
theorem add_same {i p x : Nat} {nd : Nd} {s : ByteArray} (h : x ≠ i) : lkN (addM M i nd p s) x = lkN M x ∧ datN (addM M i nd p s) x = datN M x ∧ isDir (addM M i nd p s) x = isDir M x := by
  unfold lkN datN isDir addM
  rw [if_neg h]
  by_cases e2 : x = p
  · rw [if_pos e2, e2]
    cases hm : M p with
    | none => exact ⟨rfl, rfl, rfl⟩
    | some q =>
      refine ⟨rfl, rfl, ?_⟩
      show (q.ents.map _).isSome = q.ents.isSome
      rw [Option.isSome_map]
  · rw [if_neg e2]
    exact ⟨rfl, rfl, rfl⟩
theorem TG.add (h : TG M cap) {i p : Nat} {dir : Bool} {s : ByteArray} (hi : 2 ≤ i ∧ i < cap) (hn : M i = none) (hp : isDir M p = true) (hs : entN M p s = none) : TG (addM M i (freshNd dir) p s) cap := by
  have he := ent_add (dir := dir) (s := s) hp hn
  have hi2 : i ≠ 2 := fun e => by have := h.ok.root_there; rw [← e, hn] at this; cases this
  have hno : ∀ q t, entN M q t ≠ some i := fun q t ht => by have := h.ok.ent q t i ht; rw [hn] at this; cases this
  obtain ⟨L, hL, hl⟩ := h.nms
  obtain ⟨hN, hj⟩ := num_put hL i hs
  have hz : numL (entN M) L i = 0 := by
    unfold numL
    rw [List.countP_eq_zero]
    intro x _
    simp [hno]
  have hsm : ∀ {x : Nat}, x ≠ i → (addM M i (freshNd dir) p s x).isSome = true → (M x).isSome = true := fun {x} e hx => by rw [some_add, if_neg e] at hx; exact hx
  have hpr : (M p).isSome = true := by obtain ⟨nd, f, hm, _⟩ := isDir_there hp; rw [hm]; rfl
  refine ⟨addM_ok h.ok hi hn hp, fun q t ht => ?_, ⟨(p, s) :: L, by rw [he]; exact hN, fun x hx h2 => ?_⟩, fun x hx => ?_, fun x => ?_, fun x hx => ?_⟩
  · rw [he] at ht
    unfold putE at ht
    split at ht
    · injection ht with ht; exact hi2 ht
    · exact h.noroot q t ht
  · rw [he, hj x]
    by_cases e : x = i
    · rw [if_pos e, e, hz, lkN_of addM_i]; rfl
    · rw [if_neg e, (add_same e).1, Nat.add_zero]
      exact hl x (hsm e hx) h2
  · by_cases e : x = i
    · rw [e, lkN_of addM_i, datN_of addM_i]
      exact ⟨Int.le_refl 1, show (1 : Int) ≤ 100 by decide, fun _ => ⟨rfl, rfl⟩⟩
    · obtain ⟨a, b, c⟩ := add_same (M := M) (i := i) (p := p) (s := s) (nd := freshNd dir) e
      rw [a, b, c]
      exact h.lk x (hsm e hx)
  · by_cases e : x = i
    · rw [e, datN_of addM_i]
      exact ⟨show (0 : Nat) ≤ 38400 by decide, fun y hy => by cases hy⟩
    · rw [(add_same e).2.1]; exact h.byt x
  · rw [he]
    have hm : ∀ a t b, entN M a t = some b → putE (entN M) p s (some i) a t = some b := fun a t b hb => by
      rw [putE_other (fun e => by rw [e.1, e.2, hs] at hb; cases hb)]; exact hb
    by_cases e : x = i
    · obtain ⟨l, hlp⟩ := h.reach p hpr
      exact ⟨l ++ [s], goE_snoc.2 ⟨p, goE_mono hm l 2 p hlp, by rw [putE_self, e]⟩⟩
    · obtain ⟨l, hlp⟩ := h.reach x (hsm e hx)
      exact ⟨l, goE_mono hm l 2 x hlp⟩
/-- One name more of a file. -/
def linkM (M : TM) (p : Nat) (s : ByteArray) (i : Nat) : TM := setE (setN M i (lkN M i + 1) (datN M i)) p (updE (entN M p) s (some i))
theorem link_same {i x : Nat} {l : Int} : lkN (setN M i l (datN M i)) x = (if x = i then (if (M i).isSome then l else 0) else lkN M x) ∧ datN (setN M i l (datN M i)) x = datN M x := by
  unfold lkN datN setN
  by_cases e : x = i
  · rw [if_pos e, if_pos e, e]
    cases hm : M i with
    | none => exact ⟨rfl, rfl⟩
    | some nd => exact ⟨rfl, rfl⟩
  · rw [if_neg e, if_neg e]
    exact ⟨rfl, rfl⟩
theorem setE_same {p x : Nat} {f : ByteArray → Option Nat} : lkN (setE M p f) x = lkN M x ∧ datN (setE M p f) x = datN M x := by
  unfold lkN datN setE
  by_cases e : x = p
  · rw [if_pos e, e]
    cases M p <;> exact ⟨rfl, rfl⟩
  · rw [if_neg e]
    exact ⟨rfl, rfl⟩
theorem TG.link (h : TG M cap) {i p : Nat} {s : ByteArray} (hi : (M i).isSome = true) (hf : isDir M i = false) (hp : isDir M p = true) (hs : entN M p s = none) (hk : lkN M i ≠ 100) : TG (linkM M p s i) cap := by
  have hpd : isDir (setN M i (lkN M i + 1) (datN M i)) p = true := isDir_setN.trans hp
  have hee : entN (setN M i (lkN M i + 1) (datN M i)) = entN M := by funext x t; exact entN_setN
  have he : entN (linkM M p s i) = putE (entN M) p s (some i) := by
    unfold linkM
    have := ent_setE (s := s) (o := some i) hpd
    rw [hee] at this
    exact this
  obtain ⟨ndp, fp, hmp, hfp⟩ := isDir_there hpd
  have hi2 : i ≠ 2 := fun e => by have := h.ok.root; rw [← e, hf] at this; cases this
  obtain ⟨L, hL, hl⟩ := h.nms
  obtain ⟨hN, hj⟩ := num_put hL i hs
  have hsm : ∀ x, (linkM M p s i x).isSome = (M x).isSome := fun x => by unfold linkM; rw [some_setE hmp, some_setN]
  have hlk : ∀ x, lkN (linkM M p s i) x = if x = i then lkN M i + 1 else lkN M x := fun x => by unfold linkM; rw [setE_same.1, link_same.1, hi]; rfl
  have hdt : ∀ x, datN (linkM M p s i) x = datN M x := fun x => by unfold linkM; rw [setE_same.2, link_same.2]
  have hdi : ∀ x, isDir (linkM M p s i) x = isDir M x := fun x => by unfold linkM; rw [isDir_setE hmp hfp, isDir_setN]
  have hpr : (M p).isSome = true := by obtain ⟨nd, f, hm, _⟩ := isDir_there hp; rw [hm]; rfl
  refine ⟨setE_ok (setN_ok h.ok) hmp hfp (fun t j ht => ?_), fun q t ht => ?_, ⟨(p, s) :: L, by rw [he]; exact hN, fun x hx h2 => ?_⟩, fun x hx => ?_, fun x => ?_, fun x hx => ?_⟩
  · rw [some_setN]
    unfold updE at ht
    split at ht
    · injection ht with ht; rw [← ht]; exact hi
    · exact h.ok.ent p t j ht
  · rw [he] at ht
    unfold putE at ht
    split at ht
    · injection ht with ht; exact hi2 ht
    · exact h.noroot q t ht
  · rw [hsm] at hx
    rw [he, hj x, hlk x]
    by_cases e : x = i
    · rw [if_pos e, if_pos e, e, hl i hi hi2]; rfl
    · rw [if_neg e, if_neg e]
      exact hl x hx h2
  · rw [hsm] at hx
    rw [hlk, hdt, hdi]
    by_cases e : x = i
    · have := h.lk i hi
      rw [if_pos e, e]
      exact ⟨by omega, by omega, fun hd => by rw [hf] at hd; cases hd⟩
    · rw [if_neg e]; exact h.lk x hx
  · rw [hdt]; exact h.byt x
  · rw [hsm] at hx
    rw [he]
    obtain ⟨l, hlp⟩ := h.reach x hx
    refine ⟨l, goE_mono (fun a t b hb => ?_) l 2 x hlp⟩
    rw [putE_other (fun e => by rw [e.1, e.2, hs] at hb; cases hb)]; exact hb
/-- A name of a node is gone. -/
def dropT (M : TM) (p : Nat) (s : ByteArray) (i : Nat) : TM := match M i with
  | some nd => dropM M p (entN M p) s i nd
  | none => M
theorem goE_drop {e : EM} {p i : Nat} {s : ByteArray} (hi : ∀ t, e i t = none) (hs : e p s = some i) : ∀ (l : List ByteArray) (x j : Nat), j ≠ i → goE e x l = some j → goE (putE e p s none) x l = some j
  | [], x, j, hj, h => h
  | t :: l, x, j, hj, h => by
    have h : ((e x t).bind fun y => goE e y l) = some j := h
    show ((putE e p s none x t).bind fun y => goE (putE e p s none) y l) = some j
    cases hx : e x t with
    | none => rw [hx] at h; cases h
    | some y =>
      rw [hx] at h
      have h : goE e y l = some j := h
      have hne : ¬ (x = p ∧ t = s) := fun ⟨e1, e2⟩ => by
        rw [e1, e2, hs] at hx
        injection hx with hx
        rw [← hx] at h
        cases l with
        | nil => injection h with h; exact hj h.symm
        | cons u l =>
          have h : ((e i u).bind fun y => goE e y l) = some j := h
          rw [hi u] at h; cases h
      rw [putE_other hne, hx]
      exact goE_drop hi hs l y j hj h
theorem TG.drop (h : TG M cap) {i p : Nat} {s : ByteArray} (hs : entN M p s = some i) (hi : ∀ t, entN M i t = none) : TG (dropT M p s i) cap := by
  have hith := h.ok.ent p s i hs
  obtain ⟨nd, hm⟩ := Option.isSome_iff_exists.1 hith
  have hpd := ent_dir hs
  obtain ⟨ndp, fp, hmp, hfp⟩ := isDir_there hpd
  have hip : i ≠ p := fun e => by have := hi s; rw [e, hs] at this; cases this
  have hi2 : i ≠ 2 := fun e => h.noroot p s (by rw [hs, e])
  have hM1 : TOk (setN (setE M p (updE (entN M p) s none)) i (nd.links - 1) nd.data) cap := setN_ok (setE_ok h.ok hmp hfp fun t j ht => by
    unfold updE at ht
    split at ht
    · cases ht
    · exact h.ok.ent p t j ht)
  have hm2 : setE M p (updE (entN M p) s none) i = some nd := by rw [setE_o hip]; exact hm
  have he1 : entN (setN (setE M p (updE (entN M p) s none)) i (nd.links - 1) nd.data) = putE (entN M) p s none := by
    rw [← ent_setE (s := s) (o := none) hpd]
    funext x t; exact entN_setN
  have hs1 : ∀ x, ((setN (setE M p (updE (entN M p) s none)) i (nd.links - 1) nd.data) x).isSome = (M x).isSome := fun x => by rw [some_setN, some_setE hmp]
  have hd1 : ∀ x, isDir (setN (setE M p (updE (entN M p) s none)) i (nd.links - 1) nd.data) x = isDir M x := fun x => by rw [isDir_setN, isDir_setE hmp hfp]
  have hdd : nd.data = datN (setE M p (updE (entN M p) s none)) i := by rw [setE_same.2, datN_of hm]
  have hl1 : ∀ x, lkN (setN (setE M p (updE (entN M p) s none)) i (nd.links - 1) nd.data) x = if x = i then nd.links - 1 else lkN M x := fun x => by rw [hdd, link_same.1, setE_same.1, hm2]; rfl
  have ht1 : ∀ x, datN (setN (setE M p (updE (entN M p) s none)) i (nd.links - 1) nd.data) x = datN M x := fun x => by
    have := (link_same (M := setE M p (updE (entN M p) s none)) (i := i) (x := x) (l := nd.links - 1)).2
    rw [← hdd] at this
    rw [this, setE_same.2]
  obtain ⟨L, hL, hl⟩ := h.nms
  obtain ⟨L', hN, hj⟩ := num_del hL hs
  have hlk := h.lk i hith
  rw [lkN_of hm] at hlk
  have hli := hl i hith hi2
  rw [lkN_of hm] at hli
  have hji := hj i
  rw [if_pos rfl] at hji
  generalize hM' : setN (setE M p (updE (entN M p) s none)) i (nd.links - 1) nd.data = M1 at *
  have hdr : dropT M p s i = if nd.links - 1 = 0 then killM M1 i else M1 := by
    unfold dropT
    rw [hm]
    show dropM M p (entN M p) s i nd = _
    unfold dropM
    rw [hM']
  rw [hdr]
  by_cases h0 : nd.links - 1 = 0
  · rw [if_pos h0]
    have hno : ∀ q t, putE (entN M) p s none q t ≠ some i := fun q t ht => by
      unfold putE at ht
      split at ht
      · cases ht
      · rename_i ne
        exact ne (h.one (by rw [lkN_of hm]; omega) hs ht)
    have hek : entN (killM M1 i) = putE (entN M) p s none := by
      funext x t
      rw [entN_kill, he1]
      by_cases e : x = i
      · rw [if_pos e, e, putE_other (fun e' => hip e'.1), hi t]
      · rw [if_neg e]
    have hsk : ∀ x, (killM M1 i x).isSome = true → x ≠ i ∧ (M x).isSome = true := fun x hx => by
      unfold killM at hx
      split at hx
      · cases hx
      · rename_i e; exact ⟨e, by rw [← hs1]; exact hx⟩
    have hob : ∀ x, x ≠ i → killM M1 i x = M1 x := fun x e => if_neg e
    refine ⟨kill_ok hM1 hi2 (fun q t hq ht => hno q t (by rw [← he1]; exact ht)), fun q t ht => ?_, ⟨L', by rw [hek]; exact hN, fun x hx h2 => ?_⟩, fun x hx => ?_, fun x => ?_, fun x hx => ?_⟩
    · rw [hek] at ht
      unfold putE at ht
      split at ht
      · cases ht
      · exact h.noroot q t ht
    · obtain ⟨e, hx'⟩ := hsk x hx
      have := hj x
      rw [if_neg e] at this
      have hlx := hl1 x
      rw [if_neg e] at hlx
      rw [hek, show lkN (killM M1 i) x = lkN M1 x by unfold lkN; rw [hob x e], hlx, hl x hx' h2]
      omega
    · obtain ⟨e, hx'⟩ := hsk x hx
      have hlx := hl1 x
      rw [if_neg e] at hlx
      rw [show lkN (killM M1 i) x = lkN M1 x by unfold lkN; rw [hob x e], show datN (killM M1 i) x = datN M1 x by unfold datN; rw [hob x e], show isDir (killM M1 i) x = isDir M1 x by unfold isDir; rw [hob x e], hlx, ht1, hd1]
      exact h.lk x hx'
    · by_cases e : x = i
      · rw [show datN (killM M1 i) x = [] by unfold datN killM; rw [if_pos e]]
        exact ⟨by decide, fun y hy => by cases hy⟩
      · rw [show datN (killM M1 i) x = datN M1 x by unfold datN; rw [hob x e], ht1]
        exact h.byt x
    · obtain ⟨e, hx'⟩ := hsk x hx
      obtain ⟨l, hlx⟩ := h.reach x hx'
      exact ⟨l, by rw [hek]; exact goE_drop hi hs l 2 x e hlx⟩
  · rw [if_neg h0]
    refine ⟨hM1, fun q t ht => ?_, ⟨L', by rw [he1]; exact hN, fun x hx h2 => ?_⟩, fun x hx => ?_, fun x => by rw [ht1]; exact h.byt x, fun x hx => ?_⟩
    · rw [he1] at ht
      unfold putE at ht
      split at ht
      · cases ht
      · exact h.noroot q t ht
    · rw [hs1] at hx
      rw [he1, hl1]
      have := hj x
      by_cases e : x = i
      · rw [if_pos e] at this ⊢
        rw [e] at this ⊢
        omega
      · rw [if_neg e] at this ⊢
        rw [hl x hx h2]
        omega
    · rw [hs1] at hx
      rw [hl1, ht1, hd1]
      by_cases e : x = i
      · rw [if_pos e, e]
        refine ⟨by omega, by omega, fun hd => ?_⟩
        have := (h.lk i hith).2.2 hd
        rw [lkN_of hm] at this
        omega
      · rw [if_neg e]; exact h.lk x hx
    · rw [hs1] at hx
      rw [he1]
      by_cases e : x = i
      · have hp2 : 1 ≤ numL (putE (entN M) p s none) L' i := by omega
        obtain ⟨y, hy, hye⟩ := List.countP_pos_iff.1 (show 0 < List.countP (fun x => putE (entN M) p s none x.1 x.2 == some i) L' from hp2)
        have hye : putE (entN M) p s none y.1 y.2 = some i := by simpa using hye
        have hyM : entN M y.1 y.2 = some i := by
          unfold putE at hye
          split at hye
          · cases hye
          · exact hye
        have hyi : y.1 ≠ i := fun e' => by rw [e', hi] at hyM; cases hyM
        obtain ⟨nq, fq, hmq, _⟩ := isDir_there (ent_dir hyM)
        obtain ⟨l, hlq⟩ := h.reach y.1 (by rw [hmq]; rfl)
        exact ⟨l ++ [y.2], goE_snoc.2 ⟨y.1, goE_drop hi hs l 2 y.1 hyi hlq, by rw [e]; exact hye⟩⟩
      · obtain ⟨l, hlx⟩ := h.reach x hx
        exact ⟨l, goE_drop hi hs l 2 x e hlx⟩
end
end Go.Proofs.Ytoofcnehoffllaa
