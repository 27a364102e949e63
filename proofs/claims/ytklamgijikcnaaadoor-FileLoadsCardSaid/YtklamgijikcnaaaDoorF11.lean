/- A file's map in memory; walks of New, told, need. -/
import Derived.Test.YtklamgijikcnaaaDoorF10
import Derived.Deep.WholeRow
namespace Go.Proofs.YtklamgijikcnaaaDoor
open Go.RowKit

theorem klI : KL Tryd.prog 3 (.int .i64) (Value.int .i64) := kl_int Tryd.underlying3
theorem zero_int (w : World) : (zeroValue 3).run Tryd.prog w = .ok (.int .i64 0) w := (zero_of_info (P := Tryd.prog) (t := 3) (v := .int .i64 0) (n := 1) (by kernel_rfl)).1 w
theorem zero_meta (w : World) : (zeroValue 78).run Tryd.prog w = .ok (.pointer none) w := (zero_of_info (P := Tryd.prog) (t := 78) (v := .pointer none) (n := 1) (by kernel_rfl)).1 w
def ptrV (b : Nat) : Value := .pointer (some ⟨b, 0, none⟩)
def dataF (d : Int → Int) : Int → Option Value := fun k => if d k = 0 then none else some (.int .i64 (d k))
def ptrF (P : Int → Option Nat) : Int → Option Value := fun k => (P k).map ptrV
structure FIn (w : World) (fb db mb : Nat) (P : Int → Option Nat) (d : Int → Int) (m : MM) : Prop where
  top : w.heap[fb]? = some (.cells #[.map (some db), .map (some mb)] 75 (0, 0))
  md : MapIs (Value.int .i64) w db (dataF d)
  mm : MapIs (Value.int .i64) w mb (ptrF P)
  dom : ∀ k, (P k).isSome = (m k).isSome
  blk : ∀ k b a u, P k = some b → m k = some (a, u) → w.heap[b]? = some (.cells #[.int .i64 a, .int .i64 u] 80 (0, 0))
  inj : ∀ k k' b, P k = some b → P k' = some b → k = k'
  ne : db ≠ mb
def updP (P : Int → Option Nat) (k : Int) (v : Option Nat) : Int → Option Nat := fun x => if x = k then v else P x
theorem updP_self {P : Int → Option Nat} {k : Int} {v : Option Nat} : updP P k v k = v := by unfold updP; rw [if_pos rfl]
theorem updP_other {P : Int → Option Nat} {k x : Int} {v : Option Nat} (h : x ≠ k) : updP P k v x = P x := by unfold updP; rw [if_neg h]
def Foot (fb db mb : Nat) (P : Int → Option Nat) (x : Nat) : Prop := x = fb ∨ x = db ∨ x = mb ∨ ∃ k, P k = some x
/-- A map of blocks in memory: data's addresses, blocks of pointers; its blocks are in F. -/
structure FAt (w : World) (fb : Nat) (d : Int → Int) (m : MM) (F : Nat → Prop) : Prop where
  ex : ∃ db mb P, FIn w fb db mb P d m ∧ ∀ x, Foot fb db mb P x → F x
  lt : ∀ x, F x → x < w.heap.size
  off : ¬ F 0
  span : SpanAt w
section
variable {w w' : World} {fb db mb : Nat} {P : Int → Option Nat} {d : Int → Int} {m : MM} {F : Nat → Prop}
theorem FIn.fr {S : Nat → Prop} (h : FIn w fb db mb P d m) (hf : Fr S w w') (hs : ∀ x, Foot fb db mb P x → ¬ S x) : FIn w' fb db mb P d m :=
  ⟨by rw [hf.block fb (blk_lt h.top) (hs _ (.inl rfl))]; exact h.top, h.md.fr hf (hs _ (.inr (.inl rfl))), h.mm.fr hf (hs _ (.inr (.inr (.inl rfl)))), h.dom,
    fun k b a u hp hm => by rw [hf.block b (blk_lt (h.blk k b a u hp hm)) (hs _ (.inr (.inr (.inr ⟨k, hp⟩))))]; exact h.blk k b a u hp hm, h.inj, h.ne⟩
theorem FAt.fr {S : Nat → Prop} (h : FAt w fb d m F) (hf : Fr S w w') (hs : ∀ x, F x → ¬ S x) (h0 : ¬ S 0) : FAt w' fb d m F := by
  obtain ⟨db, mb, P, h1, h2⟩ := h.ex
  exact ⟨⟨db, mb, P, h1.fr hf fun x hx => hs x (h2 x hx), h2⟩, fun x hx => Nat.lt_of_lt_of_le (h.lt x hx) hf.size, h.off, h.span.fr hf h0⟩
theorem FAt.below (h : FAt w fb d m F) (hb : Below w.heap.size w w') : FAt w' fb d m F := h.fr (S := fun _ => False) (Fr.below hb) (fun _ _ => id) id
theorem FIn.mblk (h : FIn w fb db mb P d m) {b : Nat} {z : Int} (hp : P z = some b) : b ≠ fb ∧ b ≠ db ∧ b ≠ mb := by
  have hs : (m z).isSome = true := by rw [← h.dom z, hp]; rfl
  obtain ⟨v, hv⟩ := Option.isSome_iff_exists.1 hs
  have hb := h.blk z b v.1 v.2 hp hv
  refine ⟨fun e => ?_, fun e => ?_, fun e => ?_⟩
  · rw [e, h.top] at hb
    injection hb with hb
    injection hb with _ hb _
    exact absurd hb (by decide)
  · obtain ⟨es, c, hm, _⟩ := h.md
    rw [e, hm] at hb
    injection hb with hb
    cases hb
  · obtain ⟨es, c, hm, _⟩ := h.mm
    rw [e, hm] at hb
    injection hb with hb
    cases hb
theorem FIn.fne (h : FIn w fb db mb P d m) : fb ≠ db ∧ fb ≠ mb := by
  refine ⟨fun e => ?_, fun e => ?_⟩
  · obtain ⟨es, c, hm, _⟩ := h.md
    rw [← e, h.top] at hm
    injection hm with hm
    cases hm
  · obtain ⟨es, c, hm, _⟩ := h.mm
    rw [← e, h.top] at hm
    injection hm with hm
    cases hm
theorem FIn.at (h : FIn w fb db mb P d m) {z a u : Int} (hm : m z = some (a, u)) : ∃ b, P z = some b ∧ w.heap[b]? = some (.cells #[.int .i64 a, .int .i64 u] 80 (0, 0)) := by
  have hs : (P z).isSome = true := by rw [h.dom z, hm]; rfl
  obtain ⟨b, hb⟩ := Option.isSome_iff_exists.1 hs
  exact ⟨b, hb, h.blk z b a u hb hm⟩
theorem FIn.gone (h : FIn w fb db mb P d m) {z : Int} (hm : m z = none) : P z = none := by
  have := h.dom z
  rw [hm] at this
  cases hp : P z with
  | none => rfl
  | some b => rw [hp] at this; cases this
/-- A cell of a block of pointers is laid. -/
theorem FIn.setMeta (h : FIn w fb db mb P d m) {z a u a' u' : Int} {b i : Nat} {v : Value} (hm : m z = some (a, u)) (hp : P z = some b) (hc : (#[.int .i64 a, .int .i64 u] : Array Value).setIfInBounds i v = #[.int .i64 a', .int .i64 u']) :
    FIn (w.setCell ⟨b, i, none⟩ v) fb db mb P d (updM m z (some (a', u'))) := by
  obtain ⟨n1, n2, n3⟩ := h.mblk hp
  have hf : Fr (fun x => x = b) w (w.setCell ⟨b, i, none⟩ v) := (Fr.refl (fun x => x = b) w).setCell ⟨b, i, none⟩ rfl v
  refine ⟨(hf.block fb (blk_lt h.top) (fun e => n1 e.symm)).trans h.top, h.md.fr hf (fun e => n2 e.symm), h.mm.fr hf (fun e => n3 e.symm), fun k => ?_, fun k b' x y hp' hm' => ?_, h.inj, h.ne⟩
  · by_cases e : k = z
    · rw [e, updM_self, h.dom z, hm]; rfl
    · rw [updM_other e]; exact h.dom k
  · by_cases e : k = z
    · subst e
      rw [updM_self] at hm'
      obtain ⟨rfl, rfl⟩ := Prod.mk.inj (Option.some.inj hm')
      rw [hp] at hp'
      obtain rfl := Option.some.inj hp'
      have := blk_set (i := i) (h.blk _ _ _ _ hp hm) v
      rw [hc] at this
      exact this
    · rw [updM_other e] at hm'
      have hb' := h.blk k b' x y hp' hm'
      rw [hf.block b' (blk_lt hb') (fun e' => e (h.inj k z b (by rw [← show b' = b from e']; exact hp') hp))]
      exact hb'
/-- A block of pointers comes. -/
theorem FIn.addMeta {w1 : World} (h : FIn w fb db mb P d m) {z : Int} {nb : Nat} (hm : m z = none) (h1 : Fr (fun _ => False) w w1) (hnb : w1.heap[nb]? = some (.cells #[.int .i64 0, .int .i64 1] 80 (0, 0))) (hn : w.heap.size ≤ nb) :
    ∃ w2, (Instr.mapUpdate 73 (.map (some mb)) (.int .i64 z) (ptrV nb)).run Tryd.prog w1 = .ok () w2 ∧ FIn w2 fb db mb (updP P z (some nb)) d (updM m z (some (0, 1))) ∧ Fr (fun x => x = mb) w1 w2 := by
  have h' := h.fr h1 (fun _ _ => id)
  obtain ⟨w2, r, hmm, hf⟩ := h'.mm.put klI Tryd.underlying73 z (ptrV nb)
  have hold : ∀ {k b}, P k = some b → b < w.heap.size := fun {k b} hp => by
    have hs : (m k).isSome = true := by rw [← h.dom k, hp]; rfl
    obtain ⟨v, hv⟩ := Option.isSome_iff_exists.1 hs
    exact blk_lt (h.blk k b v.1 v.2 hp hv)
  have hml := h.mm.lt
  refine ⟨w2, r, ⟨(hf.block fb (blk_lt h'.top) h'.fne.2).trans h'.top, h'.md.fr hf h.ne, ?_, fun k => ?_, fun k b a u hp hm' => ?_, fun k k' b hp hp' => ?_, h.ne⟩, hf⟩
  · have : ptrF (updP P z (some nb)) = putK (ptrF P) z (ptrV nb) := by
      funext x
      unfold ptrF
      by_cases e : x = z
      · rw [e, updP_self, putK_self]; rfl
      · rw [updP_other e, putK_other e]
    rw [this]; exact hmm
  · by_cases e : k = z
    · rw [e, updP_self, updM_self]; rfl
    · rw [updP_other e, updM_other e]; exact h.dom k
  · by_cases e : k = z
    · subst e
      rw [updP_self] at hp
      obtain rfl := Option.some.inj hp
      rw [updM_self] at hm'
      obtain ⟨rfl, rfl⟩ := Prod.mk.inj (Option.some.inj hm')
      rw [hf.block nb (blk_lt hnb) (by omega)]; exact hnb
    · rw [updP_other e] at hp
      rw [updM_other e] at hm'
      rw [hf.block b (blk_lt (h'.blk k b a u hp hm')) (h'.mblk hp).2.2]
      exact h'.blk k b a u hp hm'
  · by_cases e : k = z
    · rw [e, updP_self] at hp
      obtain rfl := Option.some.inj hp
      by_cases e' : k' = z
      · rw [e, e']
      · rw [updP_other e'] at hp'
        have := hold hp'; omega
    · rw [updP_other e] at hp
      by_cases e' : k' = z
      · rw [e', updP_self] at hp'
        obtain rfl := Option.some.inj hp'
        have := hold hp; omega
      · rw [updP_other e'] at hp'
        exact h.inj k k' b hp hp'
/-- A block of pointers goes. -/
theorem FIn.delMeta (h : FIn w fb db mb P d m) (z : Int) :
    ∃ w2, (∀ ty, (Builtin.delete_ #[73, 3] ty #[.map (some mb), .int .i64 z]).run Tryd.prog w = .ok (.tuple #[]) w2) ∧ FIn w2 fb db mb (updP P z none) d (updM m z .none) ∧ Fr (fun x => x = mb) w w2 := by
  obtain ⟨w2, r, hmm, hf⟩ := h.mm.del klI Tryd.underlying73 z
  refine ⟨w2, r, ⟨(hf.block fb (blk_lt h.top) h.fne.2).trans h.top, h.md.fr hf h.ne, ?_, fun k => ?_, fun k b a u hp hm' => ?_, fun k k' b hp hp' => ?_, h.ne⟩, hf⟩
  · have : ptrF (updP P z none) = delK (ptrF P) z := by
      funext x
      unfold ptrF
      by_cases e : x = z
      · rw [e, updP_self, delK_self]; rfl
      · rw [updP_other e, delK_other e]
    rw [this]; exact hmm
  · by_cases e : k = z
    · rw [e, updP_self, updM_self]; rfl
    · rw [updP_other e, updM_other e]; exact h.dom k
  · by_cases e : k = z
    · rw [e, updP_self] at hp; cases hp
    · rw [updP_other e] at hp
      rw [updM_other e] at hm'
      rw [hf.block b (blk_lt (h.blk k b a u hp hm')) (h.mblk hp).2.2]
      exact h.blk k b a u hp hm'
  · by_cases e : k = z
    · rw [e, updP_self] at hp; cases hp
    · rw [updP_other e] at hp
      by_cases e' : k' = z
      · rw [e', updP_self] at hp'; cases hp'
      · rw [updP_other e'] at hp'
        exact h.inj k k' b hp hp'
/-- Data gets an address. -/
theorem FIn.putData (h : FIn w fb db mb P d m) (n : Int) {a : Int} (ha : a ≠ 0) :
    ∃ w2, (Instr.mapUpdate 27 (.map (some db)) (.int .i64 n) (.int .i64 a)).run Tryd.prog w = .ok () w2 ∧ FIn w2 fb db mb P (setD d n a) m ∧ Fr (fun x => x = db) w w2 := by
  obtain ⟨w2, r, hmm, hf⟩ := h.md.put klI Tryd.underlying27 n (.int .i64 a)
  refine ⟨w2, r, ⟨(hf.block fb (blk_lt h.top) h.fne.1).trans h.top, ?_, h.mm.fr hf (fun e => h.ne e.symm), h.dom, fun k b x u hp hm' => by
    rw [hf.block b (blk_lt (h.blk k b x u hp hm')) (h.mblk hp).2.1]; exact h.blk k b x u hp hm', h.inj, h.ne⟩, hf⟩
  have : dataF (setD d n a) = putK (dataF d) n (.int .i64 a) := by
    funext x
    unfold dataF
    by_cases e : x = n
    · rw [e, setD_self, if_neg ha, putK_self]
    · rw [setD_other e, putK_other e]
  rw [this]; exact hmm
theorem FIn.delData (h : FIn w fb db mb P d m) (n : Int) :
    ∃ w2, (∀ ty, (Builtin.delete_ #[27, 3] ty #[.map (some db), .int .i64 n]).run Tryd.prog w = .ok (.tuple #[]) w2) ∧ FIn w2 fb db mb P (setD d n 0) m ∧ Fr (fun x => x = db) w w2 := by
  obtain ⟨w2, r, hmm, hf⟩ := h.md.del klI Tryd.underlying27 n
  refine ⟨w2, r, ⟨(hf.block fb (blk_lt h.top) h.fne.1).trans h.top, ?_, h.mm.fr hf (fun e => h.ne e.symm), h.dom, fun k b x u hp hm' => by
    rw [hf.block b (blk_lt (h.blk k b x u hp hm')) (h.mblk hp).2.1]; exact h.blk k b x u hp hm', h.inj, h.ne⟩, hf⟩
  have : dataF (setD d n 0) = delK (dataF d) n := by
    funext x
    unfold dataF
    by_cases e : x = n
    · rw [e, setD_self, if_pos rfl, delK_self]
    · rw [setD_other e, delK_other e]
  rw [this]; exact hmm
theorem FIn.lookD (h : FIn w fb db mb P d m) (n : Int) : (Instr.lookup 27 (.map (some db)) (.int .i64 n) false).run Tryd.prog w = .ok (.int .i64 (d n)) w := by
  have := h.md.look1 klI Tryd.underlying27 zero_int n
  rw [this]
  unfold dataF
  by_cases e : d n = 0
  · rw [if_pos e, e]; rfl
  · rw [if_neg e]; rfl
theorem FIn.lookM (h : FIn w fb db mb P d m) (n : Int) : (Instr.lookup 73 (.map (some mb)) (.int .i64 n) false).run Tryd.prog w = .ok (.pointer ((P n).map fun b => ⟨b, 0, .none⟩)) w := by
  have := h.mm.look1 klI Tryd.underlying73 zero_meta n
  rw [this]
  unfold ptrF
  cases P n <;> rfl
end
end Go.Proofs.YtklamgijikcnaaaDoor
