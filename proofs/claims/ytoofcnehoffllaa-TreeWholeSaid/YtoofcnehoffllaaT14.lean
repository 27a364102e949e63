/- Walks of notFile and notEmpty; how many names each node has. -/
import Derived.Test.YtoofcnehoffllaaT13
namespace Go.Proofs.Ytoofcnehoffllaa
open Go.RowKit

section
variable {α : Type} {ke : α → Value} {Q : Program} {K e t : TypeId} {d : TypeDesc} {w w' : World} {mb : Nat} {f : α → Option Value}
theorem MapIs.len0 (h : MapIs ke w mb f) (_L : KL Q K d ke) (ht : Q.underlying t = some (.map K e)) :
    ∃ n : Nat, (∀ ty, (Builtin.len_ #[t] ty #[.map (some mb)]).run Q w = .ok (.int .i64 n) w) ∧ (n = 0 ↔ ∀ k, f k = none) := by
  obtain ⟨es, c, hm, _, h1, h2⟩ := h
  refine ⟨es.size, fun ty => by simp [Builtin.len_, run_underlying ht, MapKept.run_getObj_map hm, goInt], fun h0 k => ?_, fun h0 => ?_⟩
  · cases hk : f k with
    | none => rfl
    | some v =>
      obtain ⟨y, hy, _⟩ := h2 k v hk
      have : 0 < es.toList.length := List.length_pos_of_mem hy
      rw [Array.length_toList] at this
      omega
  · rcases Nat.eq_zero_or_pos es.size with h | h
    · exact h
    · have hy : es[0] ∈ es.toList := by simp
      obtain ⟨k, _, hk⟩ := h1 _ hy
      rw [h0 k] at hk; cases hk
end
open Classical in
/-- A directory has entries. -/
noncomputable def hasN (M : TM) (i : Nat) : Bool := decide (∃ s j, entN M i s = some j)
/-- What is wrong with a node that shall be gone, as a directory or as a file. -/
noncomputable def wrongN (M : TM) (i : Nat) (dir : Bool) : Int := if dir then (if isDir M i then (if hasN M i then 39 else 0) else 20) else if isDir M i then 21 else 0
section
variable {w : World} {tb nb cap : Nat} {P E : Nat → Option Nat} {V : Nat → Value} {M : TM}
set_option maxRecDepth 100000 in
theorem notFile_any (h : TIn w tb nb cap P E V M) {i : Nat} (hi : (M i).isSome = true) :
    Calls Try.prog 29 #[nptr (P i)] w fun e w' => e = .returned (.int .i64 (wrongN M i false)) ∧ w' = w := by
  have HD := Lib.hid (dir_any h hi)
  have HW : Hid (wrongN M i false = if isDir M i then 21 else 0) := Lib.hid rfl
  generalize isDir M i = di at *
  generalize nptr (P i) = pv at *
  clear h hi
  cases di
  · have HW2 : Hid (wrongN M i false = 0) := Lib.hid HW.out
    clear HW
    go_enter Try.func29, Try.ntmps29
    go_wp2_with fail
    refine HD.out.mono ?_
    rintro e w1 ⟨rfl, rfl⟩
    go_wp2_with fail
    go_ret
    exact ⟨by rw [HW2.out]; rfl, rfl⟩
  · have HW2 : Hid (wrongN M i false = 21) := Lib.hid HW.out
    clear HW
    go_enter Try.func29, Try.ntmps29
    go_wp2_with fail
    refine HD.out.mono ?_
    rintro e w1 ⟨rfl, rfl⟩
    go_wp2_with fail
    go_ret
    exact ⟨by rw [HW2.out]; rfl, rfl⟩
set_option maxRecDepth 100000 in
theorem notEmpty_any (h : TIn w tb nb cap P E V M) {i : Nat} (hi : (M i).isSome = true) :
    Calls Try.prog 30 #[nptr (P i)] w fun e w' => e = .returned (.int .i64 (wrongN M i true)) ∧ w' = w := by
  have HD := Lib.hid (dir_any h hi)
  have HW : Hid (wrongN M i true = if isDir M i then (if hasN M i then 39 else 0) else 20) := Lib.hid rfl
  obtain ⟨nd, hm⟩ := Option.isSome_iff_exists.1 hi
  obtain ⟨b, hp, hb⟩ := h.at_ hm
  have c1 := cell_blk_some hb (i := 1) rfl
  rw [hp] at HD ⊢
  unfold nptr at *
  cases hdi : isDir M i with
  | false =>
    rw [hdi] at HD HW
    have HW2 : Hid (wrongN M i true = 20) := Lib.hid HW.out
    clear HW h hi hm hp hb hdi
    go_enter Try.func30, Try.ntmps30
    go_wp2_with fail
    refine HD.out.mono ?_
    rintro e w1 ⟨rfl, rfl⟩
    go_wp2_with fail
    go_ret
    exact ⟨by rw [HW2.out]; rfl, rfl⟩
  | true =>
    rw [hdi] at HD HW
    have hE : ∃ eb f, E i = some eb ∧ nd.ents = some f ∧ MapIs Value.string w eb (entF P f) := by
      have := h.ents i nd hm
      unfold isDir at hdi
      rw [hm] at hdi
      have hdi : nd.ents.isSome = true := hdi
      cases hn : nd.ents with
      | none => rw [hn] at hdi; cases hdi
      | some f =>
        rw [hn] at this
        obtain ⟨eb, h1, h2⟩ := this
        exact ⟨eb, f, h1, rfl, h2⟩
    obtain ⟨eb, f, hE, hf, hMp⟩ := hE
    obtain ⟨n, hlen, hn0⟩ := hMp.len0 klS Try.underlying65
    rw [hE] at c1
    have hh : hasN M i = decide (n ≠ 0) := by
      unfold hasN
      rw [decide_eq_decide]
      constructor
      · rintro ⟨s, j, hs⟩ h0
        have := hn0.1 h0 s
        rw [entN_of hm, hf] at hs
        have hs : f s = some j := hs
        unfold entF at this
        rw [hs] at this; cases this
      · intro h0
        apply Classical.byContradiction
        intro hc
        refine h0 (hn0.2 fun s => ?_)
        unfold entF
        cases hs : f s with
        | none => rfl
        | some j => exact absurd ⟨s, j, by rw [entN_of hm, hf]; exact hs⟩ hc
    rw [hh] at HW
    clear h hi hm hp hb hdi hf hMp hn0 hh hE
    cases n with
    | zero =>
      have HW2 : Hid (wrongN M i true = 0) := Lib.hid HW.out
      clear HW
      go_enter Try.func30, Try.ntmps30
      go_wp2_with fail
      refine HD.out.mono ?_
      rintro e w1 ⟨rfl, rfl⟩
      go_wp2_with fail
      go_ret
      exact ⟨by rw [HW2.out]; rfl, rfl⟩
    | succ n =>
      have HW2 : Hid (wrongN M i true = 39) := Lib.hid (by rw [HW.out]; simp)
      have hpos : (0 : Int) < ((n + 1 : Nat) : Int) := by omega
      clear HW
      go_enter Try.func30, Try.ntmps30
      go_wp2_with fail
      refine HD.out.mono ?_
      rintro e w1 ⟨rfl, rfl⟩
      go_wp2_with fail
      go_ret
      exact ⟨by rw [HW2.out]; rfl, rfl⟩
end
/-- A map of names: what a directory p has under s. -/
abbrev EM := Nat → ByteArray → Option Nat
def putE (e : EM) (p : Nat) (s : ByteArray) (o : Option Nat) : EM := fun x t => if x = p ∧ t = s then o else e x t
/-- All names, each once. -/
def Names (e : EM) (L : List (Nat × ByteArray)) : Prop := L.Nodup ∧ ∀ x, x ∈ L ↔ (e x.1 x.2).isSome = true
def numL (e : EM) (L : List (Nat × ByteArray)) (i : Nat) : Nat := L.countP fun x => e x.1 x.2 == some i
theorem putE_self {e : EM} {p : Nat} {s : ByteArray} {o : Option Nat} : putE e p s o p s = o := if_pos ⟨rfl, rfl⟩
theorem putE_other {e : EM} {p x : Nat} {s t : ByteArray} {o : Option Nat} (h : ¬ (x = p ∧ t = s)) : putE e p s o x t = e x t := if_neg h
theorem num_put {e : EM} {L : List (Nat × ByteArray)} (h : Names e L) {p : Nat} {s : ByteArray} (i : Nat) (hn : e p s = none) :
    Names (putE e p s (some i)) ((p, s) :: L) ∧ ∀ j, numL (putE e p s (some i)) ((p, s) :: L) j = numL e L j + if j = i then 1 else 0 := by
  have hni : (p, s) ∉ L := fun hm => by have := (h.2 _).1 hm; rw [hn] at this; cases this
  have hoth : ∀ x ∈ L, ¬ (x.1 = p ∧ x.2 = s) := fun x hx ⟨e1, e2⟩ => hni (by rw [← e1, ← e2]; exact hx)
  refine ⟨⟨List.nodup_cons.2 ⟨hni, h.1⟩, fun x => ?_⟩, fun j => ?_⟩
  · rw [List.mem_cons]
    by_cases e1 : x.1 = p ∧ x.2 = s
    · unfold putE
      rw [if_pos e1]
      exact ⟨fun _ => rfl, fun _ => .inl (Prod.ext e1.1 e1.2)⟩
    · rw [putE_other e1, ← h.2 x]
      exact ⟨fun hx => hx.elim (fun e2 => absurd ⟨by rw [e2], by rw [e2]⟩ e1) id, .inr⟩
  · unfold numL
    rw [List.countP_cons, putE_self]
    have hc : List.countP (fun x => putE e p s (some i) x.1 x.2 == some j) L = List.countP (fun x => e x.1 x.2 == some j) L := List.countP_congr fun x hx => by rw [putE_other (hoth x hx)]
    rw [hc]
    congr 1
    by_cases e1 : j = i
    · rw [if_pos e1, e1]; simp
    · rw [if_neg e1, if_neg (by simp; exact fun e2 => e1 e2.symm)]
theorem num_del {e : EM} {L : List (Nat × ByteArray)} (h : Names e L) {p : Nat} {s : ByteArray} {i : Nat} (hn : e p s = some i) :
    ∃ L', Names (putE e p s none) L' ∧ ∀ j, numL (putE e p s none) L' j + (if j = i then 1 else 0) = numL e L j := by
  have hmem : (p, s) ∈ L := (h.2 _).2 (by rw [hn]; rfl)
  obtain ⟨L', hperm⟩ : ∃ L', L.Perm ((p, s) :: L') := by
    obtain ⟨l1, l2, hL⟩ := List.append_of_mem hmem
    exact ⟨l1 ++ l2, by rw [hL]; exact List.perm_middle⟩
  have hnd : (((p, s)) :: L').Nodup := (hperm.nodup_iff).1 h.1
  have hni : (p, s) ∉ L' := (List.nodup_cons.1 hnd).1
  have hoth : ∀ x ∈ L', ¬ (x.1 = p ∧ x.2 = s) := fun x hx ⟨e1, e2⟩ => hni (by rw [← e1, ← e2]; exact hx)
  refine ⟨L', ⟨(List.nodup_cons.1 hnd).2, fun x => ?_⟩, fun j => ?_⟩
  · by_cases e1 : x.1 = p ∧ x.2 = s
    · unfold putE
      rw [if_pos e1]
      exact ⟨fun hx => absurd e1 (hoth x hx), fun hx => by cases hx⟩
    · rw [putE_other e1, ← h.2 x, hperm.mem_iff, List.mem_cons]
      exact ⟨.inr, fun hx => hx.elim (fun e2 => absurd ⟨by rw [e2], by rw [e2]⟩ e1) id⟩
  · unfold numL
    rw [hperm.countP_eq, List.countP_cons, hn]
    have hc : List.countP (fun x => putE e p s none x.1 x.2 == some j) (L') = List.countP (fun x => e x.1 x.2 == some j) (L') := List.countP_congr fun x hx => by rw [putE_other (hoth x hx)]
    rw [hc]
    congr 1
    by_cases e1 : j = i
    · rw [if_pos e1, e1]; simp
    · rw [if_neg e1, if_neg (by simp; exact fun e2 => e1 e2.symm)]
theorem num_pos {e : EM} {L : List (Nat × ByteArray)} (h : Names e L) {p : Nat} {s : ByteArray} {i : Nat} (hn : e p s = some i) : 1 ≤ numL e L i := by
  obtain ⟨L', _, hj⟩ := num_del h hn
  have := hj i
  rw [if_pos rfl] at this
  omega
theorem num_one {e : EM} {L : List (Nat × ByteArray)} (h : Names e L) {p : Nat} {s : ByteArray} {i : Nat} (hn : e p s = some i) (h1 : numL e L i = 1) {q : Nat} {t : ByteArray} (hq : e q t = some i) : q = p ∧ t = s := by
  apply Classical.byContradiction
  intro hc
  obtain ⟨L', hN, hj⟩ := num_del h hn
  have := num_pos hN (p := q) (s := t) (i := i) (by rw [putE_other hc]; exact hq)
  have := hj i
  rw [if_pos rfl] at this
  omega
end Go.Proofs.Ytoofcnehoffllaa
