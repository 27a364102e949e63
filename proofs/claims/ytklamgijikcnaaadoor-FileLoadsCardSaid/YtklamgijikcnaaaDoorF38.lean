/- What Load makes of pointers, plainly; a reader; what its closure goes on with. -/
import Derived.Test.YtklamgijikcnaaaDoorF37
namespace Go.Proofs.YtklamgijikcnaaaDoor
open Go.RowKit

section
variable (rd : Int → Option (List Int))
/-- Is what a pointer leads to all right? -/
def gN : Nat → Int → Int → Bool
  | 0, _, _ => false
  | f + 1, n, a => decide (a < 4096) && (decide (0 ≤ n) || match rd a with
    | none => false
    | some bs => decide (bs.length = 64) && (wordsN bs).any (fun p => decide (p ≠ 0)) && (List.range 16).all fun s => decide ((wordsN bs).getD s 0 = 0) || match childN n s with
      | none => false
      | some c => gN f c ((wordsN bs).getD s 0))
/-- What is told behind it, in order. -/
def eN : Nat → Int → Int → List (Int × Int)
  | 0, _, _ => []
  | f + 1, n, a => if 0 ≤ n then [(n, a)] else (match rd a with
    | none => []
    | some bs => (List.range 16).flatMap fun s => if (wordsN bs).getD s 0 = 0 then [] else match childN n s with
      | none => []
      | some c => eN f c ((wordsN bs).getD s 0)) ++ [(n, a)]
/-- What is read. -/
def tN : Nat → Int → Int → List Int
  | 0, _, _ => []
  | f + 1, n, a => if 0 ≤ n then [] else a :: match rd a with
    | none => []
    | some bs => (List.range 16).flatMap fun s => if (wordsN bs).getD s 0 = 0 then [] else match childN n s with
      | none => []
      | some c => tN f c ((wordsN bs).getD s 0)
def okS (f : Nat) (n : Int) (l : List Int) (s : Nat) : Bool := decide (l.getD s 0 = 0) || match childN n s with
  | none => false
  | some c => gN rd f c (l.getD s 0)
def eS (f : Nat) (n : Int) (l : List Int) (s : Nat) : List (Int × Int) := if l.getD s 0 = 0 then [] else match childN n s with
  | none => []
  | some c => eN rd f c (l.getD s 0)
def tS (f : Nat) (n : Int) (l : List Int) (s : Nat) : List Int := if l.getD s 0 = 0 then [] else match childN n s with
  | none => []
  | some c => tN rd f c (l.getD s 0)
def rowOk (f : Nat) (n : Int) (l : List Int) (k : Nat) : Bool := (List.range k).all (okS rd f n l)
def rowE (f : Nat) (n : Int) (l : List Int) (k : Nat) : List (Int × Int) := (List.range k).flatMap (eS rd f n l)
def rowT (f : Nat) (n : Int) (l : List Int) (k : Nat) : List Int := (List.range k).flatMap (tS rd f n l)
def anyP (l : List Int) (k : Nat) : Bool := (l.take k).any fun p => decide (p ≠ 0)
theorem gN_meta {f : Nat} {n a : Int} (hn : n < 0) (ha : a < 4096) : gN rd (f + 1) n a = match rd a with
    | none => false
    | some bs => decide (bs.length = 64) && (anyP (wordsN bs) 16 && rowOk rd f n (wordsN bs) 16) := by
  conv => lhs; unfold gN
  rw [decide_eq_true ha, decide_eq_false (by omega)]
  simp only [Bool.true_and, Bool.false_or]
  cases rd a with
  | none => rfl
  | some bs => exact Bool.and_assoc _ _ _
theorem gN_data {f : Nat} {n a : Int} (hn : 0 ≤ n) (ha : a < 4096) : gN rd (f + 1) n a = true := by
  unfold gN
  rw [decide_eq_true ha, decide_eq_true hn]; rfl
theorem gN_great {f : Nat} {n a : Int} (ha : 4096 ≤ a) : gN rd f n a = false := by
  cases f with
  | zero => rfl
  | succ f => unfold gN; rw [decide_eq_false (by omega)]; rfl
theorem eN_data {f : Nat} {n a : Int} (hn : 0 ≤ n) : eN rd (f + 1) n a = [(n, a)] := by unfold eN; rw [if_pos hn]
theorem eN_meta {f : Nat} {n a : Int} {bs : List Int} (hn : n < 0) (hr : rd a = some bs) : eN rd (f + 1) n a = rowE rd f n (wordsN bs) 16 ++ [(n, a)] := by
  conv => lhs; unfold eN
  rw [if_neg (by omega), hr]; rfl
theorem tN_data {f : Nat} {n a : Int} (hn : 0 ≤ n) : tN rd (f + 1) n a = [] := by unfold tN; rw [if_pos hn]
theorem tN_meta {f : Nat} {n a : Int} {bs : List Int} (hn : n < 0) (hr : rd a = some bs) : tN rd (f + 1) n a = a :: rowT rd f n (wordsN bs) 16 := by
  conv => lhs; unfold tN
  rw [if_neg (by omega), hr]; rfl
theorem rowOk_succ (f : Nat) (n : Int) (l : List Int) (k : Nat) : rowOk rd f n l (k + 1) = (rowOk rd f n l k && okS rd f n l k) := by unfold rowOk; rw [List.range_succ, List.all_append]; simp
theorem rowE_succ (f : Nat) (n : Int) (l : List Int) (k : Nat) : rowE rd f n l (k + 1) = rowE rd f n l k ++ eS rd f n l k := by unfold rowE; rw [List.range_succ, List.flatMap_append, List.flatMap_singleton]
theorem rowT_succ (f : Nat) (n : Int) (l : List Int) (k : Nat) : rowT rd f n l (k + 1) = rowT rd f n l k ++ tS rd f n l k := by unfold rowT; rw [List.range_succ, List.flatMap_append, List.flatMap_singleton]
theorem rowOk_bad {f : Nat} {n : Int} {l : List Int} {k j : Nat} (hj : j < k) (h : okS rd f n l j = false) : rowOk rd f n l k = false := by
  cases hq : rowOk rd f n l k with
  | false => rfl
  | true =>
    unfold rowOk at hq
    have := List.all_eq_true.1 hq j (List.mem_range.2 hj)
    rw [h] at this
    cases this
theorem anyP_succ {l : List Int} {k : Nat} {p : Int} (h : l[k]? = some p) : anyP l (k + 1) = (anyP l k || decide (p ≠ 0)) := by unfold anyP; rw [take_at h, List.any_append]; simp
end
def applyE (a : Int → Int) (E : List (Int × Int)) : Int → Int := E.foldl (fun f e => setD f e.1 e.2) a
theorem applyE_append (a : Int → Int) (E E' : List (Int × Int)) : applyE a (E ++ E') = applyE (applyE a E) E' := by unfold applyE; rw [List.foldl_append]
theorem applyE_one (a : Int → Int) (n x : Int) : applyE a [(n, x)] = setD a n x := rfl
/-- A function that reads blocks by their addresses, and what it has read; R is what it writes, below Z. -/
structure Reader (Z : Nat) (R : Nat → Prop) (rd : Int → Option (List Int)) (rf : FuncId) (cap : Array Value) (J : List Int → World → Prop) : Prop where
  call : ∀ tr p w, J tr w → 0 < p → p < 4096 → Calls Tryd.prog rf (#[.int .i64 p] ++ cap) w fun e w' => J (tr ++ [p]) w' ∧ Fr R w w' ∧ match rd p with
    | none => ∃ v, e = .returned (.tuple #[v, .bool false])
    | some bs => ∃ v, e = .returned (.tuple #[v, .bool true]) ∧ RowB w' v bs
  enter : ∀ args w, (callFunc rf args).run Tryd.prog w = .ok (.enter rf args) w
  stay : ∀ tr w w' S, J tr w → Fr S w w' → (∀ x, S x → Z ≤ x) → J tr w'
  low : ∀ x, R x → x < Z ∧ x ≠ 0
/-- Where the closure's variables are. -/
structure LC (Z : Nat) (F : Nat → Prop) (xb mv rv dv : Nat) (rf : FuncId) (cap : Array Value) (w : World) : Prop where
  m : w.heap[mv]? = some (.cells #[.pointer (some ⟨xb, 0, none⟩)] 23 (0, 0))
  r : w.heap[rv]? = some (.cells #[.func (.func rf) #[] cap] 60 (0, 0))
  dn : w.heap[dv]? = some (.cells #[.func (.func 38) #[] #[.pointer (some ⟨mv, 0, none⟩), .pointer (some ⟨rv, 0, none⟩), .pointer (some ⟨dv, 0, none⟩)]] 92 (0, 0))
  om : ¬ F mv ∧ Z ≤ mv
  or' : ¬ F rv ∧ Z ≤ rv
  od : ¬ F dv ∧ Z ≤ dv
  fz : ∀ x, F x → Z ≤ x
theorem LC.fr {Z : Nat} {F F' R : Nat → Prop} {xb mv rv dv : Nat} {rf : FuncId} {cap : Array Value} {w w' : World} (h : LC Z F xb mv rv dv rf cap w) (hf : Fr (fun x => F x ∨ R x) w w') (hR : ∀ x, R x → x < Z) (hF : ∀ x, F' x → F x ∨ w.heap.size ≤ x) (hZ : Z ≤ w.heap.size) : LC Z F' xb mv rv dv rf cap w' := by
  have off : ∀ b, b < w.heap.size → ¬ F b ∧ Z ≤ b → ¬ F' b ∧ Z ≤ b := fun b hb h => ⟨fun h' => (hF b h').elim h.1 (by omega), h.2⟩
  have keep : ∀ b o, w.heap[b]? = some o → ¬ F b ∧ Z ≤ b → w'.heap[b]? = some o := fun b o hb h => (hf.block b (blk_lt hb) fun hS => hS.elim h.1 fun hr => by have := hR b hr; omega).trans hb
  exact ⟨keep _ _ h.m h.om, keep _ _ h.r h.or', keep _ _ h.dn h.od, off _ (blk_lt h.m) h.om, off _ (blk_lt h.r) h.or', off _ (blk_lt h.dn) h.od, fun x hx => (hF x hx).elim (h.fz x) (by omega)⟩
end Go.Proofs.YtklamgijikcnaaaDoor
