/- A tree of directories and files, plainly: where names lead; what a path leads to. -/
/- A tree in memory. -/
/- Walks of tree's dir, lead, look, file. -/
import Derived.Test.YtoofcnehoffllaaP1
import Derived.Test.YtoofcnehoffllaaMaps
import Derived.Laws.Cover3
namespace Go.Proofs.Ytoofcnehoffllaa
open Go.RowKit

/-- A directory, or a file. -/
structure Nd where
  ents : Option (ByteArray → Option Nat)
  data : List Int
  links : Int
/-- Nodes by their numbers. -/
abbrev TM := Nat → Option Nd
def Nd.dir (nd : Nd) : Bool := nd.ents.isSome
def isDir (M : TM) (i : Nat) : Bool := match M i with
  | some nd => nd.dir
  | none => false
def entN (M : TM) (i : Nat) (s : ByteArray) : Option Nat := match M i with
  | some nd => match nd.ents with
    | some f => f s
    | none => none
  | none => none
/-- Where names lead, from a node on: its number; or the error. -/
def leadN (M : TM) : Nat → List ByteArray → Nat ⊕ Int
  | at_, [] => .inl at_
  | at_, s :: l => if isDir M at_ then match entN M at_ s with
      | some j => leadN M j l
      | none => .inr 2
    else .inr 20
/-- What a path leads to; or the error. -/
def lookN (M : TM) (s : ByteArray) : Nat ⊕ Int :=
  if splitE s ≠ 0 then .inr (splitE s) else match leadN M 2 (splitN s) with
    | .inr e => .inr e
    | .inl i => if splitD s && !isDir M i then .inr 20 else .inl i
def fileN (M : TM) (s : ByteArray) : Nat ⊕ Int := match lookN M s with
  | .inr e => .inr e
  | .inl i => if isDir M i then .inr 21 else .inl i
/-- All that is named is there; the root is a directory. -/
structure TOk (M : TM) (cap : Nat) : Prop where
  root : isDir M 2 = true
  low : ∀ i nd, M i = some nd → 2 ≤ i ∧ i < cap
  ent : ∀ i s j, entN M i s = some j → (M j).isSome = true
theorem lead_there {M : TM} {cap : Nat} (h : TOk M cap) : ∀ (l : List ByteArray) (i j : Nat), (M i).isSome = true → leadN M i l = .inl j → (M j).isSome = true
  | [], i, j, hi, hl => by
    injection hl with hl
    rw [← hl]; exact hi
  | s :: l, i, j, hi, hl => by
    unfold leadN at hl
    split at hl
    · split at hl
      · rename_i k hk
        exact lead_there h l k j (h.ent i s k hk) hl
      · cases hl
    · cases hl
theorem TOk.root_there {M : TM} {cap : Nat} (h : TOk M cap) : (M 2).isSome = true := by
  have := h.root
  unfold isDir at this
  cases hq : M 2 with
  | some nd => rfl
  | none => rw [hq] at this; cases this
theorem lead_code {M : TM} : ∀ {l : List ByteArray} {i : Nat} {c : Int}, leadN M i l = .inr c → c ≠ 0
  | [], i, c, h => by cases h
  | s :: l, i, c, h => by
    unfold leadN at h
    split at h
    · split at h
      · exact lead_code h
      · injection h with h; omega
    · injection h with h; omega
end Go.Proofs.Ytoofcnehoffllaa

namespace Go.Proofs.Ytoofcnehoffllaa
open Go.RowKit

def nptr (o : Option Nat) : Value := .pointer (o.map fun b => ⟨b, 0, none⟩)
/-- What a directory's map holds. -/
def entF (P : Nat → Option Nat) (f : ByteArray → Option Nat) : ByteArray → Option Value := fun s => (f s).map fun j => nptr (P j)
theorem klS : KL Try.prog 9 .string Value.string := kl_str Try.underlying9
theorem zero_node (w : World) : (zeroValue 64).run Try.prog w = .ok (.pointer none) w := (zero_of_info (P := Try.prog) (t := 64) (v := .pointer none) (n := 1) (by kernel_rfl)).1 w
def u8s (l : List Int) : List Value := l.map (Value.int .u8)
/-- A tree of inodes below cap: its block tb, the row of its nodes nb; P: where the nodes are, E: where directories' maps are, V: the files' slices of bytes. -/
structure TIn (w : World) (tb nb cap : Nat) (P E : Nat → Option Nat) (V : Nat → Value) (M : TM) : Prop where
  top : w.heap[tb]? = some (.cells #[.slice (some ⟨nb, 0, none⟩) cap cap] 63 (0, 0))
  row : ∃ cs, w.heap[nb]? = some (.cells cs 64 (0, 0)) ∧ cs.size = cap ∧ ∀ i, i < cap → cs[i]? = some (nptr (P i))
  dom : ∀ i, (P i).isSome = (M i).isSome
  node : ∀ i b nd, P i = some b → M i = some nd → w.heap[b]? = some (.cells #[.int .i64 i, .map (E i), V i, .int .i64 nd.links] 67 (0, 0))
  data : ∀ i nd, M i = some nd → w.ownsRow 0 5 1 (V i) nd.data.length (u8s nd.data)
  ents : ∀ i nd, M i = some nd → match nd.ents with
    | none => E i = none
    | some f => ∃ eb, E i = some eb ∧ MapIs Value.string w eb (entF P f)
  pin : ∀ i j b, P i = some b → P j = some b → i = j
  ein : ∀ i j b, E i = some b → E j = some b → i = j
  vin : ∀ i j b, (V i).ownBlock = some b → (V j).ownBlock = some b → i = j
  eno : ∀ i, M i = none → E i = none ∧ V i = .slice none 0 0
  ok : TOk M cap
  capB : cap ≤ 201
section
variable {w w' : World} {tb nb cap : Nat} {P E : Nat → Option Nat} {V : Nat → Value} {M : TM}
/-- The blocks of a tree. -/
def TFoot (tb nb : Nat) (P E : Nat → Option Nat) (V : Nat → Value) (x : Nat) : Prop := x = tb ∨ x = nb ∨ (∃ i, P i = some x) ∨ (∃ i, E i = some x) ∨ ∃ i, (V i).ownBlock = some x
theorem TIn.fr {S : Nat → Prop} (h : TIn w tb nb cap P E V M) (hf : Fr S w w') (hs : ∀ x, TFoot tb nb P E V x → ¬ S x) : TIn w' tb nb cap P E V M := by
  obtain ⟨cs, hr, hz, hc⟩ := h.row
  refine ⟨(hf.block tb (blk_lt h.top) (hs _ (.inl rfl))).trans h.top, ⟨cs, (hf.block nb (blk_lt hr) (hs _ (.inr (.inl rfl)))).trans hr, hz, hc⟩, h.dom,
    fun i b nd hp hm => (hf.block b (blk_lt (h.node i b nd hp hm)) (hs _ (.inr (.inr (.inl ⟨i, hp⟩))))).trans (h.node i b nd hp hm),
    fun i nd hm => own_frame (h.data i nd hm) hf fun g hg => hs _ (.inr (.inr (.inr (.inr ⟨i, hg⟩)))), fun i nd hm => ?_, h.pin, h.ein, h.vin, h.eno, h.ok, h.capB⟩
  have := h.ents i nd hm
  cases hn : nd.ents with
  | none => rw [hn] at this; exact this
  | some f =>
    rw [hn] at this
    obtain ⟨eb, he, hM⟩ := this
    exact ⟨eb, he, hM.fr hf (hs _ (.inr (.inr (.inr (.inl ⟨i, he⟩)))))⟩
theorem TIn.below (h : TIn w tb nb cap P E V M) (hb : Below w.heap.size w w') : TIn w' tb nb cap P E V M := h.fr (S := fun _ => False) (Fr.below hb) fun _ _ => id
theorem TIn.at_ (h : TIn w tb nb cap P E V M) {i : Nat} {nd : Nd} (hm : M i = some nd) : ∃ b, P i = some b ∧ w.heap[b]? = some (.cells #[.int .i64 i, .map (E i), V i, .int .i64 nd.links] 67 (0, 0)) := by
  have hs : (P i).isSome = true := by rw [h.dom i, hm]; rfl
  obtain ⟨b, hb⟩ := Option.isSome_iff_exists.1 hs
  exact ⟨b, hb, h.node i b nd hb hm⟩
theorem TIn.isD (h : TIn w tb nb cap P E V M) {i : Nat} {nd : Nd} (hm : M i = some nd) : (E i).isSome = nd.dir := by
  have := h.ents i nd hm
  unfold Nd.dir
  cases hn : nd.ents with
  | none => rw [hn] at this; rw [this]; rfl
  | some f =>
    rw [hn] at this
    obtain ⟨eb, he, _⟩ := this
    rw [he]; rfl
/-- What a name leads to, in a directory's map. -/
theorem TIn.look (h : TIn w tb nb cap P E V M) {i : Nat} {nd : Nd} (hm : M i = some nd) (hd : nd.dir = true) (s : ByteArray) :
    ∃ eb, E i = some eb ∧ (Instr.lookup 65 (.map (some eb)) (.string s) false).run Try.prog w = .ok (nptr ((entN M i s).bind P)) w := by
  have := h.ents i nd hm
  unfold Nd.dir at hd
  cases hn : nd.ents with
  | none => rw [hn] at hd; cases hd
  | some f =>
    rw [hn] at this
    obtain ⟨eb, he, hM⟩ := this
    refine ⟨eb, he, ?_⟩
    have hl := hM.look1 klS Try.underlying65 zero_node s
    rw [hl]
    have hen : entN M i s = f s := by unfold entN; rw [hm]; show (match nd.ents with | some f => f s | none => none) = f s; rw [hn]
    rw [hen]
    unfold entF
    cases f s with
    | none => rfl
    | some j => rfl
end
end Go.Proofs.Ytoofcnehoffllaa

namespace Go.Proofs.Ytoofcnehoffllaa
open Go.RowKit

section
variable {w : World} {tb nb cap : Nat} {P E : Nat → Option Nat} {V : Nat → Value} {M : TM}
theorem TIn.dirV (h : TIn w tb nb cap P E V M) {i : Nat} {nd : Nd} (hm : M i = some nd) : (E i).isSome = isDir M i := by
  rw [h.isD hm]; unfold isDir; rw [hm]
set_option maxRecDepth 100000 in
theorem dir_any (h : TIn w tb nb cap P E V M) {i : Nat} (hi : (M i).isSome = true) :
    Calls Try.prog 32 #[nptr (P i)] w fun e w' => e = .returned (.bool (isDir M i)) ∧ w' = w := by
  obtain ⟨nd, hm⟩ := Option.isSome_iff_exists.1 hi
  obtain ⟨b, hp, hb⟩ := h.at_ hm
  have hd := h.dirV hm
  have c1 := cell_blk_some hb (i := 1) rfl
  rw [hp, ← hd, show nptr (some b) = .pointer (some ⟨b, 0, none⟩) from rfl]
  clear h hm hb hi hd hp
  have hne := fun o => run_neq_map_nil (P := Try.prog) w 65 9 64 o Try.underlying65
  cases hE : E i with
  | none =>
    rw [hE] at c1
    have hne := hne none
    go_enter Try.func32, Try.ntmps32
    go_wp2_with fail
    go_ret
    exact ⟨rfl, rfl⟩
  | some eb =>
    rw [hE] at c1
    have hne := hne (some eb)
    go_enter Try.func32, Try.ntmps32
    go_wp2_with fail
    go_ret
    exact ⟨rfl, rfl⟩
/-- What is answered: a node's place and no error, or nothing and an error. -/
def leadV (P : Nat → Option Nat) : Nat ⊕ Int → Value
  | .inl i => .tuple #[nptr (P i), .int .i64 0]
  | .inr e => .tuple #[.pointer none, .int .i64 e]
theorem lead_step {M : TM} {i : Nat} {s : ByteArray} {l : List ByteArray} : leadN M i (s :: l) = if isDir M i then (match entN M i s with | some j => leadN M j l | none => .inr 2) else .inr 20 := rfl
set_option maxHeartbeats 2000000 in
set_option maxRecDepth 100000 in
theorem lead_any {B : Nat} {v : Value} {l : List ByteArray} (h : TIn w tb nb cap P E V M) (hv : StrsAt B w v l) (hl : l.length ≤ 1000) :
    Calls Try.prog 57 #[.pointer (some ⟨tb, 0, none⟩), v] w fun e w' => e = .returned (leadV P (leadN M 2 l)) ∧ w' = w := by
  obtain ⟨cs, hr, hz, hcs⟩ := h.row
  obtain ⟨nd2, hm2⟩ := Option.isSome_iff_exists.1 h.ok.root_there
  have h2c := (h.ok.low 2 nd2 hm2).2
  obtain ⟨b2, hp2, hb2⟩ := h.at_ hm2
  have c0 := cell_blk_some h.top (i := 0) rfl
  have c2 := cell_blk_some hr (hcs 2 h2c)
  rw [hp2] at c2
  have HT := Lib.hid h
  have hcap : (2 : Int) < (cap : Int) := by omega
  obtain ⟨va, vc, rfl⟩ : ∃ a c, v = .slice a l.length c := hv.shape
  have HV := Lib.hid hv
  have hl' : ((l.length : Nat) : Int) ≤ 1000 := by omega
  have HP2 := Lib.hid hp2
  clear hr hz hcs h hb2 hv hp2
  go_enter Try.func57, Try.ntmps57
  unfold nptr at c2
  go_wp2_with fail
  go_loop [6, 18] (fun at_ idx => ∃ (k : Nat) (i : Nat), k ≤ l.length ∧ idx = .int .i64 k ∧ at_ = nptr (P i) ∧ (M i).isSome = true ∧ leadN M 2 l = leadN M i (l.drop k)) (fun _ idx => l.length - (RowKit.intOf idx).toNat)
  case atStart => exact ⟨0, 2, by omega, rfl, by rw [HP2.out]; rfl, by rw [hm2]; rfl, by rw [List.drop_zero]⟩
  case round =>
    obtain ⟨k, i, hk, rfl, rfl, hi, hld⟩ := hrel
    have HLD := Lib.hid hld
    clear hld
    by_cases hkl : k < l.length
    · obtain ⟨s, hs⟩ : ∃ s, l[k]? = some s := ⟨_, List.getElem?_eq_getElem hkl⟩
      have hdrop : l.drop k = s :: l.drop (k + 1) := by
        obtain ⟨hl', rfl⟩ := List.getElem?_eq_some_iff.1 hs
        rw [List.drop_eq_getElem_cons hl']
      have hstep : leadN M 2 l = if isDir M i then (match entN M i s with | some j => leadN M j (l.drop (k + 1)) | none => .inr 2) else .inr 20 := by rw [HLD.out, hdrop, lead_step]
      have HSTEP := Lib.hid hstep
      obtain ⟨nd, hm⟩ := Option.isSome_iff_exists.1 hi
      obtain ⟨b, hp, hb⟩ := HT.out.at_ hm
      have HD := Lib.hid (dir_any HT.out hi)
      rw [hp] at HD ⊢
      rcases HV.out with ⟨h0, _⟩ | ⟨g, o, c, he, hlc, _, _, hcell⟩
      · rw [h0] at hkl; simp at hkl
      · injection he with e1 _ e3
        subst e1 e3
        have k0 := hcell k s hs
        have b0 : (0 : Int) ≤ (k : Int) := by omega
        have b1 : (k : Int) < (l.length : Int) := by omega
        have ce := cell_blk_some hb (i := 1) rfl
        clear hcell hdrop hstep hs
        cases hdd : isDir M i with
        | false =>
          have HR : Hid (leadN M 2 l = .inr 20) := Lib.hid (by rw [HSTEP.out, hdd]; rfl)
          rw [hdd] at HD
          clear HSTEP hb ce
          unfold nptr
          go_wp2_with fail
          refine HD.out.mono ?_
          rintro e w1 ⟨rfl, rfl⟩
          go_wp2_with fail
          go_ret2
          exact ⟨by rw [HR.out]; rfl, rfl⟩
        | true =>
          obtain ⟨eb, he, hlk⟩ := HT.out.look hm (by have := HT.out.dirV hm; rw [hdd] at this; rw [← HT.out.isD hm]; exact this) s
          rw [he] at ce
          rw [hdd] at HD
          cases hen : entN M i s with
          | none =>
            have HR : Hid (leadN M 2 l = .inr 2) := Lib.hid (by rw [HSTEP.out, hdd, hen]; rfl)
            rw [hen] at hlk
            clear HSTEP hb
            unfold nptr at hlk ⊢
            go_wp2_with fail
            refine HD.out.mono ?_
            rintro e w1 ⟨rfl, rfl⟩
            go_wp2_with fail
            go_ret2
            exact ⟨by rw [HR.out]; rfl, rfl⟩
          | some j =>
            have HR : Hid (leadN M 2 l = leadN M j (l.drop (k + 1))) := Lib.hid (by rw [HSTEP.out, hdd, hen]; rfl)
            have hj := HT.out.ok.ent i s j hen
            obtain ⟨ndj, hmj⟩ := Option.isSome_iff_exists.1 hj
            obtain ⟨bj, hpj, _⟩ := HT.out.at_ hmj
            rw [hen] at hlk
            have hlk' : (Instr.lookup 65 (.map (some eb)) (.string s) false).run Try.prog w = .ok (.pointer (some ⟨bj, 0, none⟩)) w := by
              rw [hlk]
              show Result.ok (nptr (P j)) w = _
              rw [hpj]; rfl
            have HPJ := Lib.hid hpj
            clear HSTEP hb hlk hmj
            unfold nptr
            go_wp2_with fail
            refine HD.out.mono ?_
            rintro e w1 ⟨rfl, rfl⟩
            go_wp2_with fail
            go_roundw
            case rel => exact ⟨k + 1, j, by omega, by go_num, by rw [HPJ.out]; rfl, hj, HR.out⟩
            case measure => simp only [RowKit.intOf]; omega
    · obtain rfl : k = l.length := by omega
      have HR : Hid (leadN M 2 l = .inl i) := Lib.hid (by rw [HLD.out, List.drop_length]; rfl)
      obtain ⟨nd, hm⟩ := Option.isSome_iff_exists.1 hi
      obtain ⟨b, hp, hb⟩ := HT.out.at_ hm
      have HP := Lib.hid hp
      rw [hp]
      clear hb hp
      unfold nptr
      go_wp2_with fail
      go_ret2
      exact ⟨by rw [show leadV P (leadN M 2 l) = .tuple #[.pointer (some ⟨b, 0, none⟩), .int .i64 0] by rw [HR.out]; show Value.tuple #[nptr (P i), _] = _; rw [HP.out]; rfl]; rfl, rfl⟩
end
end Go.Proofs.Ytoofcnehoffllaa
