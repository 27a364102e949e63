/- Walk of the closure of file's Load. -/
import Derived.Test.YtklamgijikcnaaaDoorF38
namespace Go.Proofs.YtklamgijikcnaaaDoor
open Go.RowKit

/-- A child's number is told, for the inode and for a block of pointers. -/
theorem child_any {n : Int} {k : Nat} (hn : n = 600 ∧ k = 9 ∨ n ∈ metasN ∧ k = 16) (s : Nat) (hs : s < k) {w : World} (S : SpanAt w) :
    Calls Tryd.prog 39 #[.int .i64 n, .int .i64 s] w fun e w' => e = .returned (.tuple #[.int .i64 ((childN n s).getD 0), .bool (childN n s).isSome]) ∧ Below w.heap.size w w' := by
  rcases hn with ⟨rfl, rfl⟩ | ⟨hn, rfl⟩
  · refine (child_root s hs w).mono ?_
    rintro e w' ⟨rfl, hb⟩
    refine ⟨?_, hb⟩
    have : childN 600 s = some (rootsN.getD s 0) := by
      unfold childN
      rw [if_pos rfl, List.getD_eq_getElem?_getD]
      rfl
    rw [this]
    rfl
  · refine (child_meta hn s hs S).mono ?_
    rintro e w' ⟨rfl, j, rfl⟩
    exact ⟨rfl, below_drewN (Below.refl _ _) j⟩
def chkC (n : Int) (top : Nat) (s : Nat) : Bool := match childN n s with
  | none => true
  | some c => decide (upN c = (n, (s : Int))) && ((decide (0 ≤ c) && decide (c < 600)) || (decide (c ∈ metasN) && decide (lvlN c < top)))
theorem chkC_root : ∀ s : Nat, s < 9 → chkC 600 4 s = true := by decide +kernel
theorem chkC_meta : ∀ n ∈ metasN, ∀ s : Nat, s < 16 → chkC n (lvlN n) s = true := by decide +kernel
/-- Each child is data, or a block of pointers of a lower level; its parent is known. -/
theorem child_kind {n : Int} {k top : Nat} (hn : n = 600 ∧ k = 9 ∧ top = 4 ∨ n ∈ metasN ∧ k = 16 ∧ top = lvlN n) {s : Nat} (hs : s < k) {c : Int} (hc : childN n s = some c) : upN c = (n, (s : Int)) ∧ ((0 ≤ c ∧ c < 600) ∨ (c ∈ metasN ∧ lvlN c < top)) := by
  have h : chkC n top s = true := by
    rcases hn with ⟨rfl, rfl, rfl⟩ | ⟨hn, rfl, rfl⟩
    · exact chkC_root s hs
    · exact chkC_meta n hn s hs
  unfold chkC at h
  rw [hc] at h
  simp only [Bool.and_eq_true, Bool.or_eq_true, decide_eq_true_eq] at h
  exact h
/-- What is so behind a part of the slots. -/
structure DSt (Z xb mv rv dv : Nat) (R : Nat → Prop) (rd : Int → Option (List Int)) (rf : FuncId) (cap : Array Value) (J : List Int → World → Prop) (w : World) (F0 : Nat → Prop) (a0 : Int → Int) (E : List (Int × Int)) (tr : List Int) (wr : World) (d : Int → Int) (m : MM) (F : Nat → Prop) : Prop where
  f : FAt wr xb d m F
  inv : Inv d m
  adr : Go.Proofs.YtklamgijikcnaaaDoor.adr d m = applyE a0 E
  j : J tr wr
  lc : LC Z F xb mv rv dv rf cap wr
  fr : Fr (fun x => F0 x ∨ R x) w wr
  new : ∀ x, F x → F0 x ∨ w.heap.size ≤ x
  z : Z ≤ w.heap.size
section
variable {Z xb mv rv dv : Nat} {R : Nat → Prop} {rd : Int → Option (List Int)} {rf : FuncId} {cap : Array Value} {J : List Int → World → Prop} {w wr w' : World} {F0 F F' : Nat → Prop} {a0 : Int → Int} {E E' : List (Int × Int)} {tr tr' : List Int} {d d' : Int → Int} {m m' : MM}
/-- Memory that only grows. -/
theorem DSt.below (h : DSt Z xb mv rv dv R rd rf cap J w F0 a0 E tr wr d m F) (hR : Reader Z R rd rf cap J) (hb : Below wr.heap.size wr w') : DSt Z xb mv rv dv R rd rf cap J w F0 a0 E tr w' d m F :=
  ⟨h.f.below hb, h.inv, h.adr, hR.stay _ _ _ (fun _ => False) h.j (Fr.below hb) fun _ h => h.elim, h.lc.fr (Fr.below hb) (fun x hx => (hR.low x hx).1) (fun _ hx => .inl hx) (Nat.le_trans h.z h.fr.size), h.fr.trans (Fr.below hb), h.new, h.z⟩
/-- A step: from this state on. -/
theorem DSt.step (h : DSt Z xb mv rv dv R rd rf cap J w F0 a0 E tr wr d m F) (k : DSt Z xb mv rv dv R rd rf cap J wr F (Go.Proofs.YtklamgijikcnaaaDoor.adr d m) E' tr' w' d' m' F') : DSt Z xb mv rv dv R rd rf cap J w F0 a0 (E ++ E') tr' w' d' m' F' := by
  have hz := h.fr.size
  refine ⟨k.f, k.inv, by rw [k.adr, applyE_append, h.adr], k.j, k.lc, h.fr.trans' k.fr fun x hx hS => ?_, fun x hx => ?_, h.z⟩
  · rcases hS with hS | hS
    · exact (h.new x hS).elim .inl (by omega)
    · exact .inr hS
  · exact (k.new x hx).elim (h.new x) fun h => .inr (by omega)
theorem DSt.refl (h : DSt Z xb mv rv dv R rd rf cap J w F0 a0 E tr wr d m F) : DSt Z xb mv rv dv R rd rf cap J wr F (Go.Proofs.YtklamgijikcnaaaDoor.adr d m) [] tr wr d m F :=
  ⟨h.f, h.inv, rfl, h.j, h.lc, Fr.refl _ _, fun _ h => .inl h, Nat.le_trans h.z h.fr.size⟩
theorem applyE_snoc (a : Int → Int) (E : List (Int × Int)) (n x : Int) : applyE a (E ++ [(n, x)]) = setD (applyE a E) n x := by rw [applyE_append]; rfl
/-- Set of data, by Load. -/
theorem DSt.set (h : DSt Z xb mv rv dv R rd rf cap J w F0 a0 E tr wr d m F) (hR : Reader Z R rd rf cap J) {c p : Int} (hc : 0 ≤ c ∧ c < 600) (hp : 0 < p ∧ p < 4096) :
    Calls Tryd.prog 11 #[.pointer (some ⟨xb, 0, none⟩), .int .i64 c, .int .i64 p] wr fun e w' => ∃ v d' m' F', e = .returned (.tuple #[v, .int .i64 0]) ∧ DSt Z xb mv rv dv R rd rf cap J w F0 a0 (E ++ [(c, p)]) tr w' d' m' F' := by
  refine (set_data h.f h.inv hc ⟨by omega, hp.2⟩).mono ?_
  rintro e w' ⟨v, F', rfl, _, hF', ha⟩
  have hz := h.fr.size
  refine ⟨v, _, _, F', rfl, hF', (setS_ok h.inv hc).2.1.inv, ?_, hR.stay _ _ _ _ h.j ha.fr h.lc.fz, h.lc.fr (ha.fr.tell fun _ hx => .inl hx) (fun x hx => (hR.low x hx).1) ha.new (Nat.le_trans h.z hz), h.fr.trans' ha.fr fun x hx hS => (h.new x hS).elim .inl fun hh => by omega, fun x hx => (ha.new x hx).elim (h.new x) fun hh => .inr (by omega), h.z⟩
  rw [applyE_snoc, ← h.adr]
  funext k
  by_cases e : k = c
  · rw [e, setD_self, setS_there h.inv hc]
  · rw [setD_other e, setS_others h.inv hc (by omega) e]
/-- A block of pointers is told its address, by Load. -/
theorem DSt.setM (h : DSt Z xb mv rv dv R rd rf cap J w F0 a0 E tr wr d m F) (hR : Reader Z R rd rf cap J) {c p a u : Int} (hm : m c = some (a, u)) :
    ∃ mb b, wr.cell? ⟨xb, 1, none⟩ = some (.map (some mb)) ∧ (Instr.lookup 73 (.map (some mb)) (.int .i64 c) false).run Tryd.prog wr = .ok (.pointer (some ⟨b, 0, none⟩)) wr ∧ wr.cell? ⟨b, 0, none⟩ = some (.int .i64 a) ∧ wr.frozen? ⟨b, 0, none⟩ = false ∧
      DSt Z xb mv rv dv R rd rf cap J w F0 a0 (E ++ [(c, p)]) tr (wr.setCell ⟨b, 0, none⟩ (.int .i64 p)) d (updM m c (some (p, u))) F := by
  obtain ⟨db, mb, P, hin, hft⟩ := h.f.ex
  obtain ⟨g, hpg, hgg⟩ := hin.at hm
  have lkm := hin.lookM c
  rw [hpg] at lkm
  have hin2 := hin.setMeta (i := 0) (v := .int .i64 p) (a' := p) (u' := u) hm hpg rfl
  have hFg : F g := hft g (.inr (.inr (.inr ⟨c, hpg⟩)))
  have hfr : Fr (fun x => x = g) wr (wr.setCell ⟨g, 0, none⟩ (.int .i64 p)) := (Fr.refl (fun x => x = g) wr).setCell ⟨g, 0, none⟩ rfl _
  have hF2 : FAt (wr.setCell ⟨g, 0, none⟩ (.int .i64 p)) xb d (updM m c (some (p, u))) F := ⟨⟨db, mb, P, hin2, hft⟩, fun x hx => by rw [size_set]; exact h.f.lt x hx, h.f.off, h.f.span.fr hfr fun e => h.f.off (by rw [e]; exact hFg)⟩
  have ha := Aft.same hfr fun x hx => (by rw [hx]; exact hFg : F x)
  have hz := h.fr.size
  refine ⟨mb, g, cell_blk_some hin.top (i := 1) rfl, lkm, cell_blk_some hgg (i := 0) rfl, free_blk (i := 0) hgg, hF2, h.inv.setM hm, ?_, hR.stay _ _ _ _ h.j ha.fr h.lc.fz, h.lc.fr (ha.fr.tell fun _ hx => .inl hx) (fun x hx => (hR.low x hx).1) ha.new (Nat.le_trans h.z hz), h.fr.trans' ha.fr fun x hx hS => (h.new x hS).elim .inl fun hh => by omega, fun x hx => (ha.new x hx).elim (h.new x) fun hh => .inr (by omega), h.z⟩
  rw [applyE_snoc, ← h.adr]
  funext k
  rw [adr_updM (metasN_neg c (h.inv.metas (by rw [hm]; rfl))).1]
  unfold setD
  rfl
/-- A block is read. -/
theorem DSt.read (h : DSt Z xb mv rv dv R rd rf cap J w F0 a0 E tr wr d m F) (hR : Reader Z R rd rf cap J) {p : Int} (hp : 0 < p ∧ p < 4096) :
    Calls Tryd.prog rf (#[.int .i64 p] ++ cap) wr fun e w' => ∃ v, DSt Z xb mv rv dv R rd rf cap J w F0 a0 E (tr ++ [p]) w' d m F ∧ match rd p with
      | none => e = .returned (.tuple #[v, .bool false])
      | some bs => e = .returned (.tuple #[v, .bool true]) ∧ RowB w' v bs := by
  refine (hR.call tr p wr h.j hp.1 hp.2).mono ?_
  rintro e w' ⟨hj, hf, hm⟩
  have hz := h.fr.size
  have hd : DSt Z xb mv rv dv R rd rf cap J w F0 a0 E (tr ++ [p]) w' d m F :=
    ⟨h.f.fr hf (fun x hx hRx => by have := h.lc.fz x hx; have := (hR.low x hRx).1; omega) (fun hs => (hR.low _ hs).2 rfl), h.inv, h.adr, hj, h.lc.fr (hf.tell fun _ hx => .inr hx) (fun x hx => (hR.low x hx).1) (fun _ hx => .inl hx) (Nat.le_trans h.z hz), h.fr.trans' hf fun _ _ hS => .inr hS, h.new, h.z⟩
  cases hr : rd p with
  | none =>
    rw [hr] at hm
    obtain ⟨v, rfl⟩ := hm
    exact ⟨v, hd, rfl⟩
  | some bs =>
    rw [hr] at hm
    obtain ⟨v, rfl, hb⟩ := hm
    exact ⟨v, hd, rfl, hb⟩
/-- A row of pointers, in a block of its own. -/
theorem DSt.row {g : Nat} {o : Obj} (h : DSt Z xb mv rv dv R rd rf cap J w F0 a0 E tr wr d m F) (hR : Reader Z R rd rf cap J) (hg : w.heap[g]? = some o) (h0 : ¬ F0 g) (hz : Z ≤ g) : wr.heap[g]? = some o :=
  (h.fr.block g (blk_lt hg) fun hS => hS.elim h0 fun hr => by have := (hR.low g hr).1; omega).trans hg
end
end Go.Proofs.YtklamgijikcnaaaDoor
