/- One call of a cache, as a step from list to list of its buffers, the eldest use first; each method's walk in these words. -/
import Derived.Test.YtjldocpjoiibjaaC33
import Derived.Test.YtjldocpjoiibjaaC27
import Derived.Test.YtjldocpjoiibjaaC19
namespace Go.Proofs.Ytjldocpjoiibjaa
open Go.RowKit

/-- A call: as the laws' Op. -/
structure Opr where
  kind : Int
  k : Int × Int
  data : List Int
  raw : Bool
  dirty : Bool
/-- A buffer without its place and its stamp. -/
structure Pb where
  k : Int × Int
  data : List Value
  dirty : Bool
  pins : Int
def Bf.pb (b : Bf) : Pb := ⟨b.key, b.data, b.dirty, b.pins⟩
def Pb.stuck (b : Pb) : Bool := b.dirty || decide (0 < b.pins)
def Opr.bytes (o : Opr) : List Value := if o.raw then o.data.map (Value.int .u8) else pat o.data
inductive Step (m : Nat) (o : Opr) : List Pb → List Pb → Int → Option (List Value) → Prop
  | range {L} : o.kind = 1 → o.bytes.length ≠ 64 → Step m o L L 22 none
  | old {A b B} : o.kind = 1 → o.bytes.length = 64 → b.k = o.k → Step m o (A ++ b :: B) (A ++ B ++ [{ b with data := o.bytes, dirty := b.dirty || o.dirty }]) 0 none
  | new {L} : o.kind = 1 → o.bytes.length = 64 → (∀ b ∈ L, b.k ≠ o.k) → L.length < m → Step m o L (L ++ [⟨o.k, o.bytes, o.dirty, 0⟩]) 0 none
  | evict {A b B} : o.kind = 1 → o.bytes.length = 64 → (∀ b' ∈ A ++ b :: B, b'.k ≠ o.k) → (A ++ b :: B).length = m → (∀ x ∈ A, x.stuck = true) → b.stuck = false → Step m o (A ++ b :: B) (A ++ B ++ [⟨o.k, o.bytes, o.dirty, 0⟩]) 0 none
  | full {L} : o.kind = 1 → o.bytes.length = 64 → (∀ b ∈ L, b.k ≠ o.k) → L.length = m → (∀ x ∈ L, x.stuck = true) → Step m o L L 28 none
  | got {A b B} : o.kind = 2 → b.k = o.k → Step m o (A ++ b :: B) (A ++ B ++ [b]) 0 (some b.data)
  | gone {L} : o.kind = 2 → (∀ b ∈ L, b.k ≠ o.k) → Step m o L L 0 none
  | miss {L} : (o.kind = 3 ∨ o.kind = 4 ∨ o.kind = 5 ∨ o.kind = 6) → (∀ b ∈ L, b.k ≠ o.k) → Step m o L L 2 none
  | clean {A b B} : o.kind = 3 → b.k = o.k → Step m o (A ++ b :: B) (A ++ { b with dirty := false } :: B) 0 none
  | pin {A b B} : o.kind = 4 → b.k = o.k → Step m o (A ++ b :: B) (A ++ { b with pins := b.pins + 1 } :: B) 0 none
  | unpin {A b B} : o.kind = 5 → b.k = o.k → 0 < b.pins → Step m o (A ++ b :: B) (A ++ { b with pins := b.pins - 1 } :: B) 0 none
  | unpin0 {A b B} : o.kind = 5 → b.k = o.k → b.pins = 0 → Step m o (A ++ b :: B) (A ++ b :: B) 22 none
  | drop {A b B} : o.kind = 6 → b.k = o.k → b.pins = 0 → Step m o (A ++ b :: B) (A ++ B) 0 none
  | busy {A b B} : o.kind = 6 → b.k = o.k → 0 < b.pins → Step m o (A ++ b :: B) (A ++ b :: B) 16 none
  | other {L} : o.kind ≠ 1 → o.kind ≠ 2 → o.kind ≠ 3 → o.kind ≠ 4 → o.kind ≠ 5 → o.kind ≠ 6 → Step m o L L 0 none

/-- What the memory has behind a call. -/
def After (cb m : Nat) (s : Int) (F : Nat → Prop) (L : List Bf) (o : Opr) (w w' : World) (er : Int) (res : Option (List Value)) : Prop :=
  ∃ (Q' : List Bf) (s' : Int) (F' : Nat → Prop) (L' : List Bf), CAt w' cb m s' Q' F' ∧ Lru Q' s' L' ∧ s ≤ s' ∧ s' ≤ s + 1 ∧ Fr F w w' ∧ (∀ x, F' x → F x ∨ w.heap.size ≤ x) ∧ Step m o (L.map Bf.pb) (L'.map Bf.pb) er res
/-- The bytes that are answered. -/
def ResAt (w' : World) (B : Nat) (v : Value) : Option (List Value) → Prop
  | none => v = .slice none 0 0
  | some l => w'.ownsRow B 5 1 v 64 l ∧ l.length = 64

section
variable {w w1 w' : World} {cb m : Nat} {s : Int} {F : Nat → Prop} {L : List Bf} {Q : List Bf} {o : Opr} {er : Int} {res : Option (List Value)}
theorem After.ahead (h : After cb m s F L o w1 w' er res) (hf : Fr (fun _ => False) w w1) : After cb m s F L o w w' er res := by
  obtain ⟨Q', s', F', L', h1, h2, h3, h4, h5, h6, h7⟩ := h
  exact ⟨Q', s', F', L', h1, h2, h3, h4, (hf.mono fun _ _ hx => hx.elim).trans h5, fun x hx => (h6 x hx).imp id fun h => Nat.le_trans hf.size h, h7⟩
theorem After.behind {w0 : World} {g : Nat} (h : After cb m s F L o w w1 er res) (hf0 : Fr (fun _ => False) w0 w) (hf : Fr (fun x => x = g) w1 w') (hg : ¬ F g) (h0 : w0.heap.size ≤ g) (hlt : g < w.heap.size) : After cb m s F L o w0 w' er res := by
  obtain ⟨Q', s', F', L', h1, h2, h3, h4, h5, h6, h7⟩ := h
  refine ⟨Q', s', F', L', h1.frame hf (fun x hx e => ?_), h2, h3, h4, ?_, fun x hx => (h6 x hx).imp id fun h => Nat.le_trans hf0.size h, h7⟩
  · rw [show x = g from e] at hx
    rcases h6 g hx with h | h
    · exact hg h
    · omega
  · exact ⟨hf.os.trans (h5.os.trans hf0.os), hf.tape.trans (h5.tape.trans hf0.tape), hf.output.trans (h5.output.trans hf0.output), Nat.le_trans hf0.size (Nat.le_trans h5.size hf.size), fun x hx hn => by
      have e1 := hf.block x (Nat.lt_of_lt_of_le hx (Nat.le_trans hf0.size h5.size)) (fun e => by have : x = g := e; omega)
      have e2 := h5.block x (Nat.lt_of_lt_of_le hx hf0.size) hn
      exact e1.trans (e2.trans (hf0.block x hx id))⟩
theorem key_in {L : List Bf} {k : Int × Int} : (∃ A b B, L = A ++ b :: B ∧ b.key = k) ∨ (∀ b ∈ L, b.key ≠ k) := by
  by_cases h : ∃ b ∈ L, b.key = k
  · obtain ⟨b, hb, hk⟩ := h
    obtain ⟨A, B, rfl⟩ := List.append_of_mem hb
    exact .inl ⟨A, b, B, rfl, hk⟩
  · exact .inr fun b hb hk => h ⟨b, hb, hk⟩
theorem off_keys (hL : Lru Q s L) {k : Int × Int} (h : ∀ b ∈ L, b.key ≠ k) : k ∉ Q.map Bf.key := fun hx => by
  obtain ⟨b, hb, he⟩ := List.mem_map.1 hx
  exact h b (hL.perm.mem_iff.1 hb) he
theorem off_pb {L : List Bf} {k : Int × Int} (h : ∀ b ∈ L, b.key ≠ k) : ∀ b ∈ L.map Bf.pb, b.k ≠ k := fun x hx => by
  obtain ⟨b, hb, rfl⟩ := List.mem_map.1 hx
  exact h b hb
theorem getA (h : CAt w cb m s Q F) (hL : Lru Q s L) (hs0 : 0 ≤ s) (hs1 : s ≤ 4000000000000000000) (hl : L.length ≤ 10000) (ho : o.kind = 2) :
    Calls Try.prog 16 #[.pointer (some ⟨cb, 0, none⟩), keyV o.k] w fun e w' => ∃ bv res, e = .returned (.tuple #[bv, .bool res.isSome]) ∧ After cb m s F L o w w' 0 res ∧ ResAt w' w.heap.size bv res := by
  have hql := hL.perm.length_eq
  rcases key_in (L := L) (k := o.k) with ⟨A, b, B, rfl, hk⟩ | hn
  · obtain ⟨i, hi⟩ := hL.at (b := b) (by simp)
    have hok := h.bufok (List.mem_of_getElem? hi)
    have hg := cGet_any h hi hs0 hs1 (by omega)
    rw [hk] at hg
    refine hg.mono ?_
    rintro e w' ⟨v', rfl, hown, hc, hf⟩
    refine ⟨v', some b.data, rfl, ⟨_, _, F, _, hc, hL.use hi, by omega, by omega, hf, fun x hx => .inl hx, ?_⟩, hown, hok⟩
    simp only [List.map_append, List.map_cons, List.map_nil]
    exact Step.got (b := b.pb) ho hk
  · refine (cGet_miss h (off_keys hL hn)).mono ?_
    rintro e w' ⟨rfl, hc, hf⟩
    exact ⟨_, none, rfl, ⟨Q, s, F, L, hc, hL, by omega, by omega, hf, fun x hx => .inl hx, Step.gone ho (off_pb hn)⟩, rfl⟩
theorem cleanA (h : CAt w cb m s Q F) (hL : Lru Q s L) (ho : o.kind = 3) :
    Calls Try.prog 15 #[.pointer (some ⟨cb, 0, none⟩), keyV o.k] w fun e w' => ∃ er, e = .returned (.int .i64 er) ∧ After cb m s F L o w w' er none := by
  rcases key_in (L := L) (k := o.k) with ⟨A, b, B, rfl, hk⟩ | hn
  · obtain ⟨i, hi⟩ := hL.at (b := b) (by simp)
    have hg := cClean_any h hi (h.bufok (List.mem_of_getElem? hi))
    rw [hk] at hg
    refine hg.mono ?_
    rintro e w' ⟨rfl, hc, hf⟩
    refine ⟨0, rfl, ⟨_, _, F, _, hc, hL.set (b' := b.setDirty false) hi rfl, by omega, by omega, hf, fun x hx => .inl hx, ?_⟩⟩
    simp only [List.map_append, List.map_cons]
    exact Step.clean (b := b.pb) ho hk
  · refine (cClean_miss h (off_keys hL hn)).mono ?_
    rintro e w' ⟨rfl, hc, hf⟩
    exact ⟨2, rfl, ⟨Q, s, F, L, hc, hL, by omega, by omega, hf, fun x hx => .inl hx, Step.miss (by simp [ho]) (off_pb hn)⟩⟩
theorem pinA (h : CAt w cb m s Q F) (hL : Lru Q s L) (hp : ∀ b ∈ L, 0 ≤ b.pins ∧ b.pins ≤ 1000000) (ho : o.kind = 4) :
    Calls Try.prog 12 #[.pointer (some ⟨cb, 0, none⟩), keyV o.k] w fun e w' => ∃ er, e = .returned (.int .i64 er) ∧ After cb m s F L o w w' er none := by
  rcases key_in (L := L) (k := o.k) with ⟨A, b, B, rfl, hk⟩ | hn
  · obtain ⟨i, hi⟩ := hL.at (b := b) (by simp)
    obtain ⟨p0, p1⟩ := hp b (by simp)
    have hg := cPin_any h hi (h.bufok (List.mem_of_getElem? hi)) p0 (by omega)
    rw [hk] at hg
    refine hg.mono ?_
    rintro e w' ⟨rfl, hc, hf⟩
    refine ⟨0, rfl, ⟨_, _, F, _, hc, hL.set (b' := b.setPins (b.pins + 1)) hi rfl, by omega, by omega, hf, fun x hx => .inl hx, ?_⟩⟩
    simp only [List.map_append, List.map_cons]
    exact Step.pin (b := b.pb) ho hk
  · refine (cPin_miss h (off_keys hL hn)).mono ?_
    rintro e w' ⟨rfl, hc, hf⟩
    exact ⟨2, rfl, ⟨Q, s, F, L, hc, hL, by omega, by omega, hf, fun x hx => .inl hx, Step.miss (by simp [ho]) (off_pb hn)⟩⟩
theorem unpinA (h : CAt w cb m s Q F) (hL : Lru Q s L) (hp : ∀ b ∈ L, 0 ≤ b.pins ∧ b.pins ≤ 1000000) (ho : o.kind = 5) :
    Calls Try.prog 14 #[.pointer (some ⟨cb, 0, none⟩), keyV o.k] w fun e w' => ∃ er, e = .returned (.int .i64 er) ∧ After cb m s F L o w w' er none := by
  rcases key_in (L := L) (k := o.k) with ⟨A, b, B, rfl, hk⟩ | hn
  · obtain ⟨i, hi⟩ := hL.at (b := b) (by simp)
    obtain ⟨p0, p1⟩ := hp b (by simp)
    have hok := h.bufok (List.mem_of_getElem? hi)
    by_cases hz : b.pins = 0
    · have hg := cUnpin_zero h hi hok hz
      rw [hk] at hg
      refine hg.mono ?_
      rintro e w' ⟨rfl, hc, hf⟩
      refine ⟨22, rfl, ⟨_, _, F, _, hc, hL, by omega, by omega, hf, fun x hx => .inl hx, ?_⟩⟩
      simp only [List.map_append, List.map_cons]
      exact Step.unpin0 (b := b.pb) ho hk hz
    · have hg := cUnpin_any h hi hok (by omega) (by omega)
      rw [hk] at hg
      refine hg.mono ?_
      rintro e w' ⟨rfl, hc, hf⟩
      refine ⟨0, rfl, ⟨_, _, F, _, hc, hL.set (b' := b.setPins (b.pins - 1)) hi rfl, by omega, by omega, hf, fun x hx => .inl hx, ?_⟩⟩
      simp only [List.map_append, List.map_cons]
      exact Step.unpin (b := b.pb) ho hk (by show 0 < b.pins; omega)
  · refine (cUnpin_miss h (off_keys hL hn)).mono ?_
    rintro e w' ⟨rfl, hc, hf⟩
    exact ⟨2, rfl, ⟨Q, s, F, L, hc, hL, by omega, by omega, hf, fun x hx => .inl hx, Step.miss (by simp [ho]) (off_pb hn)⟩⟩
theorem dropA (h : CAt w cb m s Q F) (hL : Lru Q s L) (hp : ∀ b ∈ L, 0 ≤ b.pins ∧ b.pins ≤ 1000000) (hl : L.length ≤ 10000) (ho : o.kind = 6) :
    Calls Try.prog 39 #[.pointer (some ⟨cb, 0, none⟩), keyV o.k] w fun e w' => ∃ er, e = .returned (.int .i64 er) ∧ After cb m s F L o w w' er none := by
  have hql := hL.perm.length_eq
  rcases key_in (L := L) (k := o.k) with ⟨A, b, B, rfl, hk⟩ | hn
  · obtain ⟨i, hi⟩ := hL.at (b := b) (by simp)
    obtain ⟨p0, p1⟩ := hp b (by simp)
    by_cases hz : b.pins = 0
    · have hg := cDrop_any h hi hz (by omega)
      rw [hk] at hg
      refine hg.mono ?_
      rintro e w' ⟨rfl, hc, hf⟩
      refine ⟨0, rfl, ⟨_, _, F, _, hc, hL.drop hi, by omega, by omega, hf, fun x hx => .inl hx, ?_⟩⟩
      simp only [List.map_append, List.map_cons]
      exact Step.drop (b := b.pb) ho hk hz
    · have hg := cDrop_busy h hi (by omega)
      rw [hk] at hg
      refine hg.mono ?_
      rintro e w' ⟨rfl, hc, hf⟩
      refine ⟨16, rfl, ⟨_, _, F, _, hc, hL, by omega, by omega, hf, fun x hx => .inl hx, ?_⟩⟩
      simp only [List.map_append, List.map_cons]
      exact Step.busy (b := b.pb) ho hk (by show 0 < b.pins; omega)
  · refine (cDrop_miss h (off_keys hL hn)).mono ?_
    rintro e w' ⟨rfl, hc, hf⟩
    exact ⟨2, rfl, ⟨Q, s, F, L, hc, hL, by omega, by omega, hf, fun x hx => .inl hx, Step.miss (by simp [ho]) (off_pb hn)⟩⟩
theorem stuck_split : ∀ (L : List Bf), (∀ x ∈ L, stuckB x = true) ∨ ∃ A b B, L = A ++ b :: B ∧ (∀ x ∈ A, stuckB x = true) ∧ stuckB b = false
  | [] => .inl fun _ h => by cases h
  | x :: L => by
    cases hx : stuckB x
    · exact .inr ⟨[], x, L, rfl, fun _ h => (by cases h), hx⟩
    · rcases stuck_split L with h | ⟨A, b, B, rfl, h1, h2⟩
      · refine .inl fun y hy => ?_
        rcases List.mem_cons.1 hy with rfl | hy
        · exact hx
        · exact h y hy
      · refine .inr ⟨x :: A, b, B, rfl, fun y hy => ?_, h2⟩
        rcases List.mem_cons.1 hy with rfl | hy
        · exact hx
        · exact h1 y hy
end
end Go.Proofs.Ytjldocpjoiibjaa
