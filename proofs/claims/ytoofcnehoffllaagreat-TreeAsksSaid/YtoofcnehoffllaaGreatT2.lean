/- A tree of directories and files, plainly: where names lead; what a path leads to. -/
/- A tree in memory. -/
import Derived.Test.YtoofcnehoffllaaGreatP1
import Derived.Test.YtoofcnehoffllaaGreatMaps
namespace Go.Proofs.YtoofcnehoffllaaGreat
open Go.RowKit

/-- A directory, or a file. -/
structure Nd where
  ents : Option (ByteArray → Option Nat)
  data : List Int
  links : Int
/-- Nodes by their numbers. -/
abbrev TM := Nat → Option Nd
def Nd.dir (nd : Nd) : Bool := nd.ents.isSome
def isDir (M : TM) (i : Nat) : Bool := match M i with
  | some nd => nd.dir
  | none => false
def entN (M : TM) (i : Nat) (s : ByteArray) : Option Nat := match M i with
  | some nd => match nd.ents with
    | some f => f s
    | none => none
  | none => none
/-- Where names lead, from a node on: its number; or the error. -/
def leadN (M : TM) : Nat → List ByteArray → Nat ⊕ Int
  | at_, [] => .inl at_
  | at_, s :: l => if isDir M at_ then match entN M at_ s with
      | some j => leadN M j l
      | none => .inr 2
    else .inr 20
/-- What a path leads to; or the error. -/
def lookN (M : TM) (s : ByteArray) : Nat ⊕ Int :=
  if splitE s ≠ 0 then .inr (splitE s) else match leadN M 2 (splitN s) with
    | .inr e => .inr e
    | .inl i => if splitD s && !isDir M i then .inr 20 else .inl i
def fileN (M : TM) (s : ByteArray) : Nat ⊕ Int := match lookN M s with
  | .inr e => .inr e
  | .inl i => if isDir M i then .inr 21 else .inl i
/-- All that is named is there; the root is a directory. -/
structure TOk (M : TM) (cap : Nat) : Prop where
  root : isDir M 2 = true
  low : ∀ i nd, M i = some nd → 2 ≤ i ∧ i < cap
  ent : ∀ i s j, entN M i s = some j → (M j).isSome = true
theorem lead_there {M : TM} {cap : Nat} (h : TOk M cap) : ∀ (l : List ByteArray) (i j : Nat), (M i).isSome = true → leadN M i l = .inl j → (M j).isSome = true
  | [], i, j, hi, hl => by
    injection hl with hl
    rw [← hl]; exact hi
  | s :: l, i, j, hi, hl => by
    unfold leadN at hl
    split at hl
    · split at hl
      · rename_i k hk
        exact lead_there h l k j (h.ent i s k hk) hl
      · cases hl
    · cases hl
theorem TOk.root_there {M : TM} {cap : Nat} (h : TOk M cap) : (M 2).isSome = true := by
  have := h.root
  unfold isDir at this
  cases hq : M 2 with
  | some nd => rfl
  | none => rw [hq] at this; cases this
theorem lead_code {M : TM} : ∀ {l : List ByteArray} {i : Nat} {c : Int}, leadN M i l = .inr c → c ≠ 0
  | [], i, c, h => by cases h
  | s :: l, i, c, h => by
    unfold leadN at h
    split at h
    · split at h
      · exact lead_code h
      · injection h with h; omega
    · injection h with h; omega
end Go.Proofs.YtoofcnehoffllaaGreat

namespace Go.Proofs.YtoofcnehoffllaaGreat
open Go.RowKit

def nptr (o : Option Nat) : Value := .pointer (o.map fun b => ⟨b, 0, none⟩)
/-- What a directory's map holds. -/
def entF (P : Nat → Option Nat) (f : ByteArray → Option Nat) : ByteArray → Option Value := fun s => (f s).map fun j => nptr (P j)
theorem klS : KL Tryz.prog 9 .string Value.string := kl_str Tryz.underlying9
theorem zero_node (w : World) : (zeroValue 68).run Tryz.prog w = .ok (.pointer none) w := (zero_of_info (P := Tryz.prog) (t := 68) (v := .pointer none) (n := 1) (by kernel_rfl)).1 w
def u8s (l : List Int) : List Value := l.map (Value.int .u8)
/-- A tree of inodes below cap: its block tb, the row of its nodes nb; P: where the nodes are, E: where directories' maps are, V: the files' slices of bytes. -/
structure TIn (w : World) (tb nb cap : Nat) (P E : Nat → Option Nat) (V : Nat → Value) (M : TM) : Prop where
  top : w.heap[tb]? = some (.cells #[.slice (some ⟨nb, 0, none⟩) cap cap] 67 (0, 0))
  row : ∃ cs, w.heap[nb]? = some (.cells cs 68 (0, 0)) ∧ cs.size = cap ∧ ∀ i, i < cap → cs[i]? = some (nptr (P i))
  dom : ∀ i, (P i).isSome = (M i).isSome
  node : ∀ i b nd, P i = some b → M i = some nd → w.heap[b]? = some (.cells #[.int .i64 i, .map (E i), V i, .int .i64 nd.links] 71 (0, 0))
  data : ∀ i nd, M i = some nd → w.ownsRow 0 5 1 (V i) nd.data.length (u8s nd.data)
  ents : ∀ i nd, M i = some nd → match nd.ents with
    | none => E i = none
    | some f => ∃ eb, E i = some eb ∧ MapIs Value.string w eb (entF P f)
  pin : ∀ i j b, P i = some b → P j = some b → i = j
  ein : ∀ i j b, E i = some b → E j = some b → i = j
  vin : ∀ i j b, (V i).ownBlock = some b → (V j).ownBlock = some b → i = j
  eno : ∀ i, M i = none → E i = none ∧ V i = .slice none 0 0
  ok : TOk M cap
  capB : cap ≤ 201
section
variable {w w' : World} {tb nb cap : Nat} {P E : Nat → Option Nat} {V : Nat → Value} {M : TM}
/-- The blocks of a tree. -/
def TFoot (tb nb : Nat) (P E : Nat → Option Nat) (V : Nat → Value) (x : Nat) : Prop := x = tb ∨ x = nb ∨ (∃ i, P i = some x) ∨ (∃ i, E i = some x) ∨ ∃ i, (V i).ownBlock = some x
theorem TIn.fr {S : Nat → Prop} (h : TIn w tb nb cap P E V M) (hf : Fr S w w') (hs : ∀ x, TFoot tb nb P E V x → ¬ S x) : TIn w' tb nb cap P E V M := by
  obtain ⟨cs, hr, hz, hc⟩ := h.row
  refine ⟨(hf.block tb (blk_lt h.top) (hs _ (.inl rfl))).trans h.top, ⟨cs, (hf.block nb (blk_lt hr) (hs _ (.inr (.inl rfl)))).trans hr, hz, hc⟩, h.dom,
    fun i b nd hp hm => (hf.block b (blk_lt (h.node i b nd hp hm)) (hs _ (.inr (.inr (.inl ⟨i, hp⟩))))).trans (h.node i b nd hp hm),
    fun i nd hm => own_frame (h.data i nd hm) hf fun g hg => hs _ (.inr (.inr (.inr (.inr ⟨i, hg⟩)))), fun i nd hm => ?_, h.pin, h.ein, h.vin, h.eno, h.ok, h.capB⟩
  have := h.ents i nd hm
  cases hn : nd.ents with
  | none => rw [hn] at this; exact this
  | some f =>
    rw [hn] at this
    obtain ⟨eb, he, hM⟩ := this
    exact ⟨eb, he, hM.fr hf (hs _ (.inr (.inr (.inr (.inl ⟨i, he⟩)))))⟩
theorem TIn.below (h : TIn w tb nb cap P E V M) (hb : Below w.heap.size w w') : TIn w' tb nb cap P E V M := h.fr (S := fun _ => False) (Fr.below hb) fun _ _ => id
theorem TIn.at_ (h : TIn w tb nb cap P E V M) {i : Nat} {nd : Nd} (hm : M i = some nd) : ∃ b, P i = some b ∧ w.heap[b]? = some (.cells #[.int .i64 i, .map (E i), V i, .int .i64 nd.links] 71 (0, 0)) := by
  have hs : (P i).isSome = true := by rw [h.dom i, hm]; rfl
  obtain ⟨b, hb⟩ := Option.isSome_iff_exists.1 hs
  exact ⟨b, hb, h.node i b nd hb hm⟩
theorem TIn.isD (h : TIn w tb nb cap P E V M) {i : Nat} {nd : Nd} (hm : M i = some nd) : (E i).isSome = nd.dir := by
  have := h.ents i nd hm
  unfold Nd.dir
  cases hn : nd.ents with
  | none => rw [hn] at this; rw [this]; rfl
  | some f =>
    rw [hn] at this
    obtain ⟨eb, he, _⟩ := this
    rw [he]; rfl
/-- What a name leads to, in a directory's map. -/
theorem TIn.look (h : TIn w tb nb cap P E V M) {i : Nat} {nd : Nd} (hm : M i = some nd) (hd : nd.dir = true) (s : ByteArray) :
    ∃ eb, E i = some eb ∧ (Instr.lookup 69 (.map (some eb)) (.string s) false).run Tryz.prog w = .ok (nptr ((entN M i s).bind P)) w := by
  have := h.ents i nd hm
  unfold Nd.dir at hd
  cases hn : nd.ents with
  | none => rw [hn] at hd; cases hd
  | some f =>
    rw [hn] at this
    obtain ⟨eb, he, hM⟩ := this
    refine ⟨eb, he, ?_⟩
    have hl := hM.look1 klS Tryz.underlying69 zero_node s
    rw [hl]
    have hen : entN M i s = f s := by unfold entN; rw [hm]; show (match nd.ents with | some f => f s | none => none) = f s; rw [hn]
    rw [hen]
    unfold entF
    cases f s with
    | none => rfl
    | some j => rfl
end
end Go.Proofs.YtoofcnehoffllaaGreat
