/- For CachePlays: the cache's blocks told apart by their tags; the reference's calls in the words of Step; the keys' rows. -/
/- Walk of the statement CachePlays of chapter 9: it returns true. -/
import Derived.Test.YtjldocpjoiibjaaC57
import Derived.Test.YtjldocpjoiibjaaC41
import Derived.Deep.DeepCutAuto
import Derived.Deep.CutBlock
import Derived.Deep.RegionHeld3
namespace Go.Proofs.Ytjldocpjoiibjaa
open Go.RowKit

theorem cNew_bad {room : Int} (h : room < 1 ∨ 4096 < room) (w : World) : Calls Try.prog 9 #[.int .i64 room] w fun e w' => e = .returned (.tuple #[.pointer none, .int .i64 22]) ∧ w' = w := by
  by_cases hlt : room < 1
  · have q1 : decide (room < 1) = true := decide_eq_true hlt
    go_enter Try.func9, Try.ntmps9
    go_wp2_with fail
    go_ret2
    exact ⟨rfl, rfl⟩
  · have q1 : decide (room < 1) = false := decide_eq_false hlt
    have q2 : decide (4096 < room) = true := decide_eq_true (by omega)
    go_enter Try.func9, Try.ntmps9
    go_wp2_with fail
    go_ret2
    exact ⟨rfl, rfl⟩

/-- The tags of a cache's blocks. -/
def Tagged (w : World) (F : Nat → Prop) : Prop := ∀ x, F x → ∀ cur t z, w.heap[x]? = some (.cells cur t z) → t = 69 ∨ t = 70 ∨ t = 74
theorem CAt.tight {w : World} {cb : Nat} {room stamp : Int} {Q : List Bf} {F : Nat → Prop} (h : CAt w cb room stamp Q F) : ∃ F', CAt w cb room stamp Q F' ∧ (∀ x, F' x → F x) ∧ Tagged w F' := by
  obtain ⟨mb, v, E, h⟩ := h
  have hs : ∀ x, (x = cb ∨ x = mb ∨ v.ownBlock = some x ∨ x ∈ Q.map (·.blk)) → F x := fun x hx => by
    rcases hx with rfl | rfl | hx | hx
    · exact h.f1
    · exact h.f2
    · exact h.f3 x hx
    · exact h.f4 x hx
  refine ⟨fun x => x = cb ∨ x = mb ∨ v.ownBlock = some x ∨ x ∈ Q.map (·.blk), ⟨mb, v, E, h.hq, h.mp, h.link, h.keys, h.fine, h.mo1, h.mo2, h.mo3, .inl rfl, .inr (.inl rfl), fun g hg => .inr (.inr (.inl hg)), fun x hx => .inr (.inr (.inr hx)), fun x hx => h.lt x (hs x hx)⟩, hs, fun x hx cur t z hb => ?_⟩
  rcases hx with rfl | rfl | hx | hx
  · have := h.hq.blk.symm.trans hb
    injection this with this
    injection this with _ e _
    exact .inl e.symm
  · obtain ⟨es, c, hm, _⟩ := h.mp
    rw [hm] at hb
    cases hb
  · rcases h.hq.own.2 with ⟨hv, _⟩ | ⟨g, cap, cur', hv, _, hg, _⟩
    · rw [hv] at hx; cases hx
    · rw [hv] at hx
      have hgx : g = x := Option.some.inj hx
      subst hgx
      have := hg.symm.trans hb
      injection this with this
      injection this with _ e _
      exact .inr (.inl e.symm)
  · obtain ⟨b, hbm, rfl⟩ := List.mem_map.1 hx
    obtain ⟨i, hi⟩ := List.mem_iff_getElem?.1 hbm
    have := (h.hq.buf i b hi).2.symm.trans hb
    injection this with this
    injection this with _ e _
    exact .inr (.inr e.symm)
theorem One.tight {W w : World} {cb : Nat} {m s : Int} {Q : List Bf} {F : Nat → Prop} (T : One W w cb m s Q F) : ∃ F', One W w cb m s Q F' ∧ (∀ x, F' x → F x) ∧ Tagged w F' := by
  obtain ⟨F', h1, h2, h3⟩ := T.c.tight
  exact ⟨F', ⟨h1, fun x hx => T.low x (h2 x hx), T.bel⟩, h2, h3⟩
theorem Tagged.off {w : World} {F : Nat → Prop} (h : Tagged w F) {g : Nat} {cur : Array Value} {t : TypeId} {z : Nat × Nat} (hg : w.heap[g]? = some (.cells cur t z)) (ht : t ≠ 69 ∧ t ≠ 70 ∧ t ≠ 74) : ¬ F g := fun hx => by
  rcases h g hx cur t z hg with e | e | e
  · exact ht.1 e
  · exact ht.2.1 e
  · exact ht.2.2 e
theorem BufRow.off {w : World} {F : Nat → Prop} {g : Nat} {P : List Pb} (h : BufRow w g P) (hF : Tagged w F) : ¬ F g := by
  obtain ⟨cur, z, hg⟩ := h.tag
  exact hF.off hg (by decide)
/-- What turns none of the row's blocks leaves the reference's cache as it is. -/
theorem RefAt.fr {w w' : World} {v : Value} {P : List Pb} {S : Nat → Prop} (h : RefAt w v P) (hf : Fr S w w') (hS : ∀ g, BufRow w g P → ¬ S g) : RefAt w' v P := by
  obtain ⟨a, c, rfl, h1, h2⟩ := h
  refine ⟨a, c, rfl, h1, fun h0 => ?_⟩
  obtain ⟨g, h3, h4⟩ := h2 h0
  exact ⟨g, h3, h4.same (hf.block g h4.lt (hS g h4)) hf.size⟩

/-- A slice of bytes turned to a text. -/
theorem conv_bys {B : Nat} {w : World} {a : Option Addr} {n c : Nat} {ys : List Int} (h : BysAt B w (.slice a n c) ys) : (convert 31 9 (.slice a n c)).run Try.prog w = .ok (.string (strD (ys.map (.int .u8)))) w := by
  have hs : strD (ys.map (.int .u8)) = strOfNums ys := by
    unfold strD
    rw [List.map_map]
    congr 1
    conv => rhs; rw [← List.map_id ys]
    rfl
  rw [hs]
  rcases h with ⟨rfl, a', c', h1⟩ | ⟨g, o, c', h1, h2, _, h4⟩
  · obtain ⟨rfl, rfl, rfl⟩ := Value.slice.inj h1
    cases a with
    | none => exact run_convert_bytes_nil w 31 5 Try.underlying31 Try.underlying5 0 c _ Try.underlying9
    | some ad =>
      rw [run_convert_bytes_string w 31 9 5 (some ad) 0 c Try.underlying31 Try.underlying5 Try.underlying9]
      have hl : (loadCells ad 0).run Try.prog w = .ok (([] : List Int).map (Value.int .u8)).toArray w := by
        have := run_loadCells_list (P := Try.prog) w ad [] (fun j v hj => by simp at hj)
        simpa using this
      rw [run_bytesToString w ad 0 c [] hl]
      rfl
  · obtain ⟨rfl, rfl, rfl⟩ := Value.slice.inj h1
    exact run_convert_bytes_arg w 31 5 Try.underlying31 Try.underlying5 g o ys.length c ys rfl (fun i hi => by
      rw [h4 i _ (List.getElem?_eq_getElem hi), List.getD_eq_getElem?_getD, List.getElem?_eq_getElem hi]; rfl) _ Try.underlying9

/-! ### the reference's calls -/
section
variable {w : World} {v : Value} {P P' : List Pb} {m p : Nat} {o : Opr} {er : Int} {res : Option (List Value)}
def strR : Option (List Value) → ByteArray
  | none => ⟨#[]⟩
  | some l => strD l
theorem refPut_step (hS : Step m o P P' er res) (hG : Good m p P) (hm : m ≤ 4096) (ho : o.kind = 1) (h : RefAt w v P) :
    res = none ∧ Calls Try.prog 20 #[refV m v, keyV o.k, .string (strD o.bytes), .bool o.dirty] w fun e w' => ∃ v', e = .returned (.tuple #[refV m v', .int .i64 er]) ∧ RefAt w' v' P' ∧ Below w.heap.size w w' := by
  have hl : P.length ≤ 100000 := by have := hG.len; omega
  cases hS with
  | range _ h64 => exact ⟨rfl, (refPut_range h h64).mono fun e w' h1 => ⟨v, h1.1, h.below h1.2, h1.2⟩⟩
  | @old A b B _ h64 hk =>
    refine ⟨rfl, refPut_old h hl rfl hG.keys hk h64 rfl fun w h => ?_⟩
    rw [← hk]
    exact find_hit h hl hG.keys
  | new _ h64 hn hlt => exact ⟨rfl, refPut_new h hl hn h64 (by omega)⟩
  | @evict A b B _ h64 hn hlm hA hb => exact ⟨rfl, refPut_room (r2 := (A.length : Nat)) h hl hn h64 (by omega) (fun b hb => (hG.pins b hb).1) (.inr ⟨A, b, B, rfl, rfl, hA, hb, rfl, rfl⟩)⟩
  | full _ h64 hn hlm hA => exact ⟨rfl, refPut_room (r2 := -1) h hl hn h64 (by omega) (fun b hb => (hG.pins b hb).1) (.inl ⟨rfl, hA, rfl, rfl⟩)⟩
  | got h2 _ => omega
  | gone h2 _ => omega
  | miss h2 _ => omega
  | clean h2 _ => omega
  | pin h2 _ => omega
  | unpin h2 _ _ => omega
  | unpin0 h2 _ _ => omega
  | drop h2 _ _ => omega
  | busy h2 _ _ => omega
  | other h2 _ _ _ _ _ => omega
theorem refGet_step (hS : Step m o P P' er res) (hG : Good m p P) (hm : m ≤ 4096) (ho : o.kind = 2) (h : RefAt w v P) :
    er = 0 ∧ Calls Try.prog 21 #[refV m v, keyV o.k] w fun e w' => ∃ v', e = .returned (.tuple #[refV m v', .string (strR res), .bool res.isSome]) ∧ RefAt w' v' P' ∧ Below w.heap.size w w' := by
  have hl : P.length ≤ 100000 := by have := hG.len; omega
  cases hS with
  | got _ hk => exact ⟨rfl, refGet_hit h hl rfl hG.keys hk⟩
  | gone _ hn => exact ⟨rfl, (refGet_miss h hl hn).mono fun e w' h1 => ⟨v, h1.1, h.below h1.2, h1.2⟩⟩
  | range h2 _ => omega
  | old h2 _ _ => omega
  | new h2 _ _ _ => omega
  | evict h2 _ _ _ _ _ => omega
  | full h2 _ _ _ _ => omega
  | miss h2 _ => omega
  | clean h2 _ => omega
  | pin h2 _ => omega
  | unpin h2 _ _ => omega
  | unpin0 h2 _ _ => omega
  | drop h2 _ _ => omega
  | busy h2 _ _ => omega
  | other _ h2 _ _ _ _ => omega
theorem refDo_step (hS : Step m o P P' er res) (hG : Good m p P) (hp : p ≤ 1000) (hm : m ≤ 4096) (ho : o.kind = 3 ∨ o.kind = 4 ∨ o.kind = 5 ∨ o.kind = 6) (h : RefAt w v P) :
    res = none ∧ Calls Try.prog 22 #[refV m v, .int .i64 o.kind, keyV o.k] w fun e w' => ∃ v', e = .returned (.tuple #[refV m v', .int .i64 er]) ∧ RefAt w' v' P' ∧ Below w.heap.size w w' := by
  have hl : P.length ≤ 100000 := by have := hG.len; omega
  cases hS with
  | miss _ hn => exact ⟨rfl, (refDo_miss h hl hn).mono fun e w' h1 => ⟨v, h1.1, h.below h1.2, h1.2⟩⟩
  | clean h2 hk => rw [h2]; exact ⟨rfl, refDo_clean h hl rfl hG.keys hk⟩
  | @pin A b B h2 hk =>
    have hb := hG.pins b (by simp)
    rw [h2]; exact ⟨rfl, refDo_pin h hl rfl hG.keys hk hb.1 (by omega)⟩
  | @unpin A b B h2 hk h0 =>
    have hb := hG.pins b (by simp)
    rw [h2]; exact ⟨rfl, refDo_unpin h hl rfl hG.keys hk h0 (by omega)⟩
  | unpin0 h2 hk h0 => rw [h2]; exact ⟨rfl, (refDo_unpin0 h hl rfl hG.keys hk h0).mono fun e w' h1 => ⟨v, h1.1, h.below h1.2, h1.2⟩⟩
  | drop h2 hk h0 => rw [h2]; exact ⟨rfl, refDo_drop h hl rfl hG.keys hk h0⟩
  | busy h2 hk h0 => rw [h2]; exact ⟨rfl, (refDo_busy h hl rfl hG.keys hk h0).mono fun e w' h1 => ⟨v, h1.1, h.below h1.2, h1.2⟩⟩
  | range h2 _ => omega
  | old h2 _ _ => omega
  | new h2 _ _ _ => omega
  | evict h2 _ _ _ _ _ => omega
  | full h2 _ _ _ _ => omega
  | got h2 _ => omega
  | gone h2 _ => omega
  | other _ _ h2 h3 h4 h5 => omega
theorem other_step (hS : Step m o P P' er res) (ho : o.kind ≠ 1 ∧ o.kind ≠ 2 ∧ o.kind ≠ 3 ∧ o.kind ≠ 4 ∧ o.kind ≠ 5 ∧ o.kind ≠ 6) : er = 0 ∧ res = none ∧ P' = P := by
  obtain ⟨o1, o2, o3, o4, o5, o6⟩ := ho
  cases hS with
  | other _ _ _ _ _ _ => exact ⟨rfl, rfl, rfl⟩
  | got h2 _ => omega
  | gone h2 _ => omega
  | miss h2 _ => omega
  | clean h2 _ => omega
  | pin h2 _ => omega
  | unpin h2 _ _ => omega
  | unpin0 h2 _ _ => omega
  | drop h2 _ _ => omega
  | busy h2 _ _ => omega
  | range h2 _ => omega
  | old h2 _ _ => omega
  | new h2 _ _ _ => omega
  | evict h2 _ _ _ _ _ => omega
  | full h2 _ _ _ _ => omega
end

theorem step_resB {m p : Nat} {o : Opr} {P P' : List Pb} {er : Int} {res : Option (List Value)} (hS : Step m o P P' er res) (hG : Good m p P) : ∀ l, res = some l → AllB l ∧ l.length = 64 := fun l hl => by
  cases hS with
  | @got A b B _ _ => rw [← Option.some.inj hl]; exact hG.dat b (by simp)
  | _ => cases hl
theorem ResAt.fr {w w' : World} {B : Nat} {bv : Value} {res : Option (List Value)} {S : Nat → Prop} (h : ResAt w B bv res) (hf : Fr S w w') (hS : ∀ g cur, w.heap[g]? = some (.cells cur 5 (0, 0)) → ¬ S g) : ResAt w' B bv res := by
  cases res with
  | none => exact h
  | some l =>
    refine ⟨⟨h.1.1, ?_⟩, h.2⟩
    rcases h.1.2 with hn | ⟨g, cap, cur, hv, hb, hg, r⟩
    · exact .inl hn
    · exact .inr ⟨g, cap, cur, hv, hb, (hf.block g (blk_lt hg) (hS g cur hg)).trans hg, r⟩

/-! ### rows of keys: one that a law of lists determines -/
def KLaw (w : World) (Φ : List (Int × Int) → Prop) (v : Value) : Prop := ∃ M, Φ M ∧ KeyRow w 0 v M
theorem KeyRow.zero {w : World} {B : Nat} {v : Value} {K : List (Int × Int)} (h : KeyRow w B v K) : KeyRow w 0 v K := by
  obtain ⟨a, c, h1, h2⟩ := h
  exact ⟨a, c, h1, fun h0 => (h2 h0).imp fun g h => ⟨h.1, Nat.zero_le _, h.2.2⟩⟩
theorem KLaw.below {w w' : World} {Φ : List (Int × Int) → Prop} {v : Value} (h : Hid (KLaw w Φ v)) (hb : Below w.heap.size w w') : Hid (KLaw w' Φ v) := by
  obtain ⟨M, h1, h2⟩ := h.out
  exact Lib.hid ⟨M, h1, h2.below hb⟩
/-- The dirty ones, rising. -/
def DirtyLaw (P : List Pb) (M : List (Int × Int)) : Prop := Rising M ∧ M.Perm (dirtyP P)
theorem dirtyP_pb (L : List Bf) : dirtyP (L.map Bf.pb) = dirtyK L := by
  unfold dirtyP dirtyK
  rw [List.filter_map, List.map_map]
  rfl
section
variable {W w : World} {cb m : Nat} {s : Int} {Q L : List Bf} {F : Nat → Prop} {v : Value}
theorem len_law (T : One W w cb m s Q F) (hL : Lru Q s L) : Calls Try.prog 13 #[.pointer (some ⟨cb, 0, none⟩)] w fun e w' => e = .returned (.int .i64 (L.map Bf.pb).length) ∧ Below w.heap.size w w' :=
  (cLen_any T.c).mono fun e w' h => ⟨by rw [List.length_map, ← hL.perm.length_eq]; exact h.1, by rw [h.2]; exact Below.refl _ _⟩
theorem order_law (T : One W w cb m s Q F) (hL : Lru Q s L) (hl : L.length ≤ 100000) : Calls Try.prog 17 #[.pointer (some ⟨cb, 0, none⟩)] w fun e w' => ∃ v', e = .returned v' ∧ Hid (KLaw w' (· = (L.map Bf.pb).map (·.k)) v') ∧ Below w.heap.size w w' :=
  (cOrder_any T.c hL (by rw [hL.perm.length_eq]; omega)).mono fun _ _ ⟨v', h1, h2, h3⟩ => ⟨v', h1, Lib.hid ⟨_, by rw [List.map_map]; rfl, (KeyRow.own h2).zero⟩, h3⟩
theorem dirty_law (T : One W w cb m s Q F) (hL : Lru Q s L) (hl : L.length ≤ 100000) : Calls Try.prog 25 #[.pointer (some ⟨cb, 0, none⟩)] w fun e w' => ∃ v', e = .returned v' ∧ Hid (KLaw w' (DirtyLaw (L.map Bf.pb)) v') ∧ Below w.heap.size w w' :=
  (cDirty_any T.c (by rw [hL.perm.length_eq]; omega)).mono fun _ _ ⟨a, c, M, h1, h2, h3, h4, h5⟩ => ⟨_, h1, Lib.hid ⟨M, ⟨h5, h4.trans (by rw [dirtyP_pb]; exact (hL.perm.filter _).map _)⟩, ⟨a, c, rfl, fun h0 => (h2 h0).imp fun g h => ⟨h.1, Nat.zero_le _, h.2.2⟩⟩⟩, h3⟩
theorem rOrder_law {P : List Pb} {room : Int} (h : RefAt w v P) (hl : P.length ≤ 100000) : Calls Try.prog 24 #[refV room v] w fun e w' => ∃ v', e = .returned v' ∧ Hid (KLaw w' (· = P.map (·.k)) v') ∧ Below w.heap.size w w' :=
  (refOrder_any h hl).mono fun _ _ ⟨v', h1, h2, h3⟩ => ⟨v', h1, Lib.hid ⟨_, rfl, h2.zero⟩, h3⟩
theorem rDirty_law {P : List Pb} {room : Int} (h : RefAt w v P) (hl : P.length ≤ 100000) : Calls Try.prog 26 #[refV room v] w fun e w' => ∃ v', e = .returned v' ∧ Hid (KLaw w' (DirtyLaw P) v') ∧ Below w.heap.size w w' :=
  (refDirty_any h hl).mono fun _ _ ⟨v', M, h1, h2, h3, h4, h5⟩ => ⟨v', h1, Lib.hid ⟨M, ⟨h3, h4⟩, h2.zero⟩, h5⟩
theorem same_law {Φ : List (Int × Int) → Prop} {v' : Value} (hΦ : ∀ A B, Φ A → Φ B → A = B) (hl : ∀ A, Φ A → A.length ≤ 1000000) (h : Hid (KLaw w Φ v)) (h' : Hid (KLaw w Φ v')) :
    Calls Try.prog 23 #[v, v'] w fun e w' => e = .returned (.bool true) ∧ Below w.heap.size w w' := by
  obtain ⟨A, h1, h2⟩ := h.out
  obtain ⟨B, h3, h4⟩ := h'.out
  rw [hΦ A B h1 h3] at h2
  exact same_any h2 h4 (hl B h3)
end
theorem dirtyLaw_one {P : List Pb} (A B : List (Int × Int)) (h : DirtyLaw P A) (h' : DirtyLaw P B) : A = B := rising_one h.1 h.2 h'.1 h'.2
theorem dirtyLaw_len {P : List Pb} {n : Nat} (hl : P.length ≤ n) (A : List (Int × Int)) (h : DirtyLaw P A) : A.length ≤ n := by
  rw [h.2.length_eq]
  unfold dirtyP
  rw [List.length_map]
  exact Nat.le_trans (List.length_filter_le _ _) hl
end Go.Proofs.Ytjldocpjoiibjaa

namespace Go.Proofs.Ytjldocpjoiibjaa
open Go.RowKit

/-- What CachePlays' round has at its head: the cache, and the reference's cache in the block mb. -/
def PSt (W w : World) (cb mb m p : Nat) : Prop := ∃ (Q L : List Bf) (s : Int) (F : Nat → Prop) (vm : Value),
  One W w cb m s Q F ∧ Lru Q s L ∧ (0 ≤ s ∧ s ≤ p) ∧ Good m p (L.map Bf.pb) ∧ w.heap[mb]? = some (.cells #[.int .i64 m, vm] 52 (0, 0)) ∧ RefAt w vm (L.map Bf.pb)

theorem below_more {w a b : World} (h : Below w.heap.size w a) (h2 : Below a.heap.size a b) : Below w.heap.size w b := h.trans (h2.mono h.size)
/-- The reference's cache is stored. -/
theorem PSt.store {W w : World} {cb mb m p : Nat} {s : Int} {Q L : List Bf} {F : Nat → Prop} {a : Option Addr} {c B : Nat} {bv vm : Value} {res : Option (List Value)} (T : One W w cb m s Q F) (hL : Lru Q s L) (hs : 0 ≤ s ∧ s ≤ p) (hG : Good m p (L.map Bf.pb))
    (hmb : w.heap[mb]? = some (.cells #[.int .i64 m, vm] 52 (0, 0))) (hR : RefAt w (.slice a (L.map Bf.pb).length c) (L.map Bf.pb)) (hl0 : W.heap.size ≤ mb) (hr : ResAt w B bv res) :
    PSt W ((w.setCell ⟨mb, 0, none⟩ (.int .i64 m)).setCell ⟨mb, 1, none⟩ (.slice a (L.map Bf.pb).length c)) cb mb m p ∧ ResAt ((w.setCell ⟨mb, 0, none⟩ (.int .i64 m)).setCell ⟨mb, 1, none⟩ (.slice a (L.map Bf.pb).length c)) B bv res := by
  obtain ⟨F', T', _, hTag⟩ := T.tight
  have hf : Fr (fun x => x = mb) w ((w.setCell ⟨mb, 0, none⟩ (.int .i64 m)).setCell ⟨mb, 1, none⟩ (.slice a (L.map Bf.pb).length c)) := ((Fr.refl (fun x => x = mb) w).setCell ⟨mb, 0, none⟩ rfl _).setCell ⟨mb, 1, none⟩ rfl _
  refine ⟨⟨Q, L, s, F', _, T'.other hf (hTag.off hmb (by decide)) hl0, hL, hs, hG, blk_set (i := 1) (blk_set (i := 0) hmb (.int .i64 m)) _, hR.fr hf fun g hg e => ?_⟩, hr.fr hf fun g cur hg e => ?_⟩
  · obtain ⟨cur, z, ht⟩ := hg.tag
    rw [show g = mb from e, hmb] at ht
    injection ht with ht
    injection ht with _ ht _
    exact absurd ht (by decide)
  · rw [show g = mb from e, hmb] at hg
    injection hg with hg
    injection hg with _ hg _
    exact absurd hg (by decide)

set_option maxHeartbeats 8000000 in
set_option maxRecDepth 100000 in
theorem lawPlays_in (m : Nat) (hm0 : 0 < m) (hm1 : m ≤ 4096) (v : Value) (ops : List (Opr × Value)) (w : World) (hv : OpsAt w.heap.size w v ops) :
    Calls Try.prog 6 #[.int .i64 m, v] w fun e w' => e = .returned (.bool true) ∧ Below w.heap.size w w' := by
  obtain ⟨av, cv, rfl, hops⟩ := hv
  have HO := Lib.hid hops; clear hops
  have HN := Lib.hid (fun w => cNew_any (room := (m : Int)) (by omega) (by omega) w)
  have HR := Lib.hid (fun w => refNew_ok (w := w) (room := (m : Int)) (by omega) (by omega))
  unfold refV at HR
  go_enter Try.func6, Try.ntmps6
  go_wp2_with fail
  refine (awake_any _).mono ?_
  rintro e w1 ⟨rfl, hb1⟩
  go_wp2_with fail
  refine (HN.out _).mono ?_
  rintro e w2 ⟨cb, rfl, hc2, hb2⟩
  have T0 := Lib.hid (One.mk (W := w) hc2 (fun x h => Nat.le_trans hb1.size h.1) (below_call hb1 hb2 (Nat.le_refl _)))
  clear hc2 hb2 hb1 HN
  go_wp2_with fail
  refine (HR.out _).mono ?_
  rintro e w3 ⟨rfl, hb3⟩
  have T1 := T0.out.below hb3
  have hst : PSt w (w3.alloc (.cells #[.int .i64 m, .slice none 0 0] 52)) cb w3.heap.size m 0 :=
    ⟨[], [], 0, _, .slice none 0 0, T1.alloc _, Lru.nil, ⟨by omega, by omega⟩, ⟨by simp, by simp, by simp, by simp⟩, blk_new rfl, ⟨none, 0, rfl, Nat.le_refl _, fun h => by simp at h⟩⟩
  have hl0 : w.heap.size ≤ w3.heap.size := T1.bel.size
  have K0 := Lib.hid hst
  clear hst T1 T0 hb3 HR
  go_wp2_with fail
  generalize w3.alloc (.cells #[.int .i64 m, .slice none 0 0] 52) = wM at K0 ⊢
  generalize w3.heap.size = mb at K0 hl0 ⊢
  go_loopg [9] 80 (fun f i wr => ∃ p : Nat, f + p = 80 ∧ p ≤ ops.length ∧ i = .int .i64 p ∧ PSt w wr cb mb m p)
  case atStart => exact ⟨0, by omega, Nat.zero_le _, rfl, K0.out⟩
  case round =>
    obtain ⟨p, hgk, hpo, rfl, hks⟩ := hrel
    obtain ⟨Q, L, s, F0, vm, hT0, hL, ⟨hs0, hs1⟩, hG, hmb, hR⟩ := hks
    obtain ⟨F, hT, -, hTag⟩ := hT0.tight
    have hFm : ¬ F mb := hTag.off hmb (by decide)
    have T := Lib.hid hT; have L1 := Lib.hid hL; have G1 := Lib.hid hG; have MB := Lib.hid hmb; have R1 := Lib.hid hR; have TG := Lib.hid hTag
    clear hT0 hT hL hG hmb hR hTag K0
    by_cases hgo : p < ops.length ∧ p < 80
    · obtain ⟨hg1, hg2⟩ := hgo
      obtain ⟨f, rfl⟩ : ∃ f, gk = f + 1 := ⟨gk - 1, by omega⟩
      obtain ⟨ga, oa, rfl, hga, hat⟩ := HO.out (by omega)
      obtain ⟨⟨op, dv⟩, hx⟩ : ∃ x, ops[p]? = some x := ⟨_, List.getElem?_eq_getElem hg1⟩
      obtain ⟨c0, c1, c2, c3, c4, c5, hdat⟩ := (hat p _ hx).below hga T.out.bel
      obtain ⟨ad, cd, hdv⟩ := hdat.shape
      obtain rfl : dv = .slice ad op.data.length cd := hdv
      obtain ⟨kind, ⟨k1, k2⟩, ys, raw, dirty⟩ := op
      simp only at c0 c1 c2 c3 c4 c5
      have DA := Lib.hid hdat
      clear hat hx hdat
      by_cases hbig : 200 < ys.length
      focus
        go_wp2_with fail
        go_roundg f
        case rel => exact ⟨p + 1, by omega, by omega, by go_num, Q, L, s, F, vm, T.out.alloc _, L1.out, ⟨hs0, by omega⟩, G1.out.more, blk_old MB.out, R1.out.below (below_alloc (Below.refl _ wr) (Nat.le_refl _) _)⟩
        all_goals omega
      obtain ⟨wX, hwX⟩ : ∃ wX, wX = (wr.alloc (.cells #[.int .i64 kind, .int .i64 k1, .int .i64 k2, .slice ad ys.length cd, .bool raw, .bool dirty] 45)).alloc (.cells #[.int .i64 k1, .int .i64 k2] 55) := ⟨_, rfl⟩
      have hbx : OpBox wX wr.heap.size ⟨kind, (k1, k2), ys, raw, dirty⟩ (.slice ad ys.length cd) := by
        rw [hwX]
        have := opBox_new wr ⟨kind, (k1, k2), ys, raw, dirty⟩ (.slice ad ys.length cd)
        unfold opCells at this
        exact this.same (((Fr.refl (fun _ => False) _).alloc _).block wr.heap.size (by simp) id)
      have hfx : Fr (fun _ => False) wr wX := by rw [hwX]; exact ((Fr.refl _ wr).alloc _).alloc _
      have TX0 : One w wX cb m s Q F := by rw [hwX]; exact (T.out.alloc _).alloc _
      have hkk : wX.heap[wr.heap.size + 1]? = some (.cells #[.int .i64 k1, .int .i64 k2] 55 (0, 0)) := by rw [hwX]; exact blk_new (by simp)
      have hkF : ¬ F wr.heap.size := fun h => by have := T.out.c.lt _ h; omega
      have hkF2 : ¬ F (wr.heap.size + 1) := fun h => by have := T.out.c.lt _ h; omega
      have hkb : wr.heap.size < wX.heap.size := blk_of_cell hbx.c0
      have hkk2 := blk_lt hkk
      have hpl := play_any (o := ⟨kind, (k1, k2), ys, raw, dirty⟩) (v := .slice ad ys.length cd) (B := w.heap.size) TX0.c L1.out hs0 (by omega) (by have := G1.out.len; rw [List.length_map] at this; exact this) (by omega)
        (fun b hb => by have := G1.out.pins b.pb (List.mem_map.2 ⟨b, hb, rfl⟩); have h1 := this.1; have h2 := this.2; exact ⟨h1, Int.le_trans h2 (by omega)⟩)
        (DA.out.fr hfx (fun _ h => h.elim) T.out.bel.size) TX0.bel.size (by show ys.length ≤ 1000; omega)
      have PL := Lib.hid hpl; have TX := Lib.hid TX0; have BX := Lib.hid hbx; have KK := Lib.hid hkk
      have DX := Lib.hid (DA.out.fr hfx (fun _ h => h.elim) T.out.bel.size)
      have FX := Lib.hid hfx
      have HWX := Lib.hid hwX
      clear hpl TX0 hfx hbx hkk DA hwX
      go_wp2_with fail
      rw [← HWX.out]
      refine PL.out.mono ?_
      rintro e w3 ⟨er, bv, res, rfl, ⟨Q2, s2, F2, L2, hc2, hl2, h3, h4, hf2, hF2, hst⟩, hr⟩
      have T2 := Lib.hid (TX.out.step hc2 hf2 hF2)
      have D3 := Lib.hid (DX.out.fr hf2 TX.out.low TX.out.bel.size)
      have hbx2 := BX.out.same (hf2.block _ hkb hkF)
      have hkk3 := (hf2.block _ hkk2 hkF2).trans KK.out
      have hf13 : Fr F wr w3 := (FX.out.mono fun _ _ h => h.elim).trans hf2
      have hmb3 := (hf13.block mb (blk_lt MB.out) hFm).trans MB.out
      have hR3 := R1.out.fr hf13 fun g hg => hg.off TG.out
      have G2 := Lib.hid (hst.good G1.out); have RB := Lib.hid (step_resB hst G1.out)
      have RS := Lib.hid (hr.less TX.out.bel.size)
      have L2' := Lib.hid hl2; have BX2 := Lib.hid hbx2; have ST := Lib.hid hst; have KK3 := Lib.hid hkk3; have MB3 := Lib.hid hmb3; have R3 := Lib.hid hR3
      have hkb3 : wr.heap.size < w3.heap.size := blk_of_cell hbx2.c0
      have hs2 : 0 ≤ s2 := by omega
      have hs3 : s2 ≤ ((p + 1 : Nat) : Int) := by omega
      generalize wr.heap.size + 1 = kk at KK3 ⊢
      generalize wr.heap.size = kb at BX2 hkb3 ⊢
      clear hc2 hl2 hf2 hF2 hst hr hbx2 hkk3 hmb3 hR3 hf13 PL TX BX DX KK FX HWX T L1 MB R1 TG hkF hkF2 hkb hkk2 c0 c1 c2 c3 c4 c5
      obtain ⟨e0, e1, e2, e3, e4, e5⟩ := BX2.out
      simp only at e0 e1 e2 e3 e4 e5
      clear BX2
      have y0 : w3.cell? ⟨kk, 0, none⟩ = some (.int .i64 k1) := cell_blk_some KK3.out rfl
      have y1 : w3.cell? ⟨kk, 1, none⟩ = some (.int .i64 k2) := cell_blk_some KK3.out rfl
      have x0 : w3.cell? ⟨mb, 0, none⟩ = some (.int .i64 m) := cell_blk_some MB3.out rfl
      obtain ⟨am, cm, hvm⟩ : ∃ a c, vm = .slice a (L.map Bf.pb).length c := by obtain ⟨a, c, h, _⟩ := R3.out; exact ⟨a, c, h⟩
      subst hvm
      have x1 : w3.cell? ⟨mb, 1, none⟩ = some (.slice am (L.map Bf.pb).length cm) := cell_blk_some MB3.out rfl
      generalize hnL : (L.map Bf.pb).length = nL at R3 MB3 x1
      go_upto_block 2 with fail
      go_cut [15, 16, 17] (fun a b c wx => a = .int .i64 er ∧ b = .string (strR res) ∧ c = .bool res.isSome ∧ PSt w wx cb mb m (p + 1) ∧ ResAt wx w.heap.size bv res)
      case first =>
        as_aux_lemma =>
          by_cases hk1 : kind = 1
          · subst hk1
            cases raw
            focus
              go_wp2_with fail
              refine (bytes_of D3.out T2.out.bel.size (by omega)).mono ?_
              rintro e wB ⟨gB, rfl, hgB1, hgB2, hbB, hdB⟩
              have cv1 := conv_row (pat_allB ys) (pat_len ys) hdB 64
              obtain ⟨hres, hcall⟩ := refPut_step ST.out G1.out hm1 rfl (R3.out.below hbB)
              rw [show Opr.bytes ⟨1, (k1, k2), ys, false, dirty⟩ = pat ys from rfl] at hcall
              have mB := blk_below hbB (blk_lt MB3.out) MB3.out
              have kB := blk_below hbB (blk_lt KK3.out) KK3.out
              have f0 : wB.cell? ⟨mb, 0, none⟩ = some (.int .i64 m) := cell_blk_some mB rfl
              have f1 : wB.cell? ⟨mb, 1, none⟩ = some (.slice am nL cm) := cell_blk_some mB rfl
              have f2 : wB.cell? ⟨kk, 0, none⟩ = some (.int .i64 k1) := cell_blk_some kB rfl
              have f3 : wB.cell? ⟨kk, 1, none⟩ = some (.int .i64 k2) := cell_blk_some kB rfl
              have f5 : wB.cell? ⟨kb, 5, none⟩ = some (.bool dirty) := (World.cell?_of_block (w := w3) (a := ⟨kb, 5, none⟩) (hbB.block kb hkb3)).trans e5
              have HC := Lib.hid hcall; have HB := Lib.hid hbB; have HRES := Lib.hid hres
              clear hgB1 hgB2 hbB hdB hcall mB kB hres e0 e1 e2 e3 e4 e5 y0 y1 x0 x1 ST
              unfold refV keyV at HC
              go_wp2_with fail
              refine HC.out.mono ?_
              rintro e w5 ⟨v5, rfl, h5, hb5'⟩
              have hb5 := HB.out.trans (hb5'.mono HB.out.size)
              clear cv1 f0 f1 f2 f3 f5 HC HB hb5'
              obtain ⟨a5, c5, hs5, hc5, hr5⟩ := h5
              subst hs5
              have hR5 : RefAt w5 (.slice a5 (L2.map Bf.pb).length c5) (L2.map Bf.pb) := ⟨a5, c5, rfl, hc5, hr5⟩
              have mb5 := blk_below hb5 (blk_lt MB3.out) MB3.out
              have hPS := PSt.store (T2.out.below hb5) L2'.out ⟨hs2, hs3⟩ G2.out mb5 hR5 hl0 (RS.out.fr (Fr.below (S := fun _ => False) hb5) fun _ _ _ h => h)
              have z0 := free_blk (i := 0) mb5
              have z1 := free_blk (i := 1) mb5
              have u0 : w5.cell? ⟨mb, 0, none⟩ = some (.int .i64 m) := cell_blk_some mb5 rfl
              have u1 : w5.cell? ⟨mb, 1, none⟩ = some (.slice am nL cm) := cell_blk_some mb5 rfl
              have PS := Lib.hid hPS
              clear hPS mb5 hR5 hc5 hr5 hb5 T2 MB3 RS
              generalize (L2.map Bf.pb).length = n5 at PS ⊢
              go_wp2_with fail
              go_meet
              case rel => exact ⟨rfl, by rw [HRES.out]; rfl, by rw [HRES.out]; rfl, PS.out.1, PS.out.2⟩
            focus
              have cv1 := conv_bys D3.out
              obtain ⟨hres, hcall⟩ := refPut_step ST.out G1.out hm1 rfl R3.out
              rw [show Opr.bytes ⟨1, (k1, k2), ys, true, dirty⟩ = ys.map (.int .u8) from rfl] at hcall
              have HC := Lib.hid hcall; have HRES := Lib.hid hres
              clear hcall hres ST
              unfold refV keyV at HC
              go_wp2_with fail
              refine HC.out.mono ?_
              rintro e w5 ⟨v5, rfl, h5, hb5⟩
              clear cv1 HC e0 e1 e2 e3 e4 e5 y0 y1 x0 x1
              obtain ⟨a5, c5, hs5, hc5, hr5⟩ := h5
              subst hs5
              have hR5 : RefAt w5 (.slice a5 (L2.map Bf.pb).length c5) (L2.map Bf.pb) := ⟨a5, c5, rfl, hc5, hr5⟩
              have mb5 := blk_below hb5 (blk_lt MB3.out) MB3.out
              have hPS := PSt.store (T2.out.below hb5) L2'.out ⟨hs2, hs3⟩ G2.out mb5 hR5 hl0 (RS.out.fr (Fr.below (S := fun _ => False) hb5) fun _ _ _ h => h)
              have z0 := free_blk (i := 0) mb5
              have z1 := free_blk (i := 1) mb5
              have u0 : w5.cell? ⟨mb, 0, none⟩ = some (.int .i64 m) := cell_blk_some mb5 rfl
              have u1 : w5.cell? ⟨mb, 1, none⟩ = some (.slice am nL cm) := cell_blk_some mb5 rfl
              have PS := Lib.hid hPS
              clear hPS mb5 hR5 hc5 hr5 hb5 T2 MB3 RS
              generalize (L2.map Bf.pb).length = n5 at PS ⊢
              go_wp2_with fail
              go_meet
              case rel => exact ⟨rfl, by rw [HRES.out]; rfl, by rw [HRES.out]; rfl, PS.out.1, PS.out.2⟩
          by_cases hk2 : kind = 2
          · subst hk2
            obtain ⟨hres, hcall⟩ := refGet_step ST.out G1.out hm1 rfl R3.out
            have HC := Lib.hid hcall; have HRES := Lib.hid hres
            clear hcall hres ST
            unfold refV keyV at HC
            go_wp2_with fail
            refine HC.out.mono ?_
            rintro e w5 ⟨v5, rfl, h5, hb5⟩
            clear HC e0 e1 e2 e3 e4 e5 y0 y1 x0 x1
            obtain ⟨a5, c5, hs5, hc5, hr5⟩ := h5
            subst hs5
            have hR5 : RefAt w5 (.slice a5 (L2.map Bf.pb).length c5) (L2.map Bf.pb) := ⟨a5, c5, rfl, hc5, hr5⟩
            have mb5 := blk_below hb5 (blk_lt MB3.out) MB3.out
            have hPS := PSt.store (T2.out.below hb5) L2'.out ⟨hs2, hs3⟩ G2.out mb5 hR5 hl0 (RS.out.fr (Fr.below (S := fun _ => False) hb5) fun _ _ _ h => h)
            have z0 := free_blk (i := 0) mb5
            have z1 := free_blk (i := 1) mb5
            have u0 : w5.cell? ⟨mb, 0, none⟩ = some (.int .i64 m) := cell_blk_some mb5 rfl
            have u1 : w5.cell? ⟨mb, 1, none⟩ = some (.slice am nL cm) := cell_blk_some mb5 rfl
            have PS := Lib.hid hPS
            clear hPS mb5 hR5 hc5 hr5 hb5 T2 MB3 RS
            generalize (L2.map Bf.pb).length = n5 at PS ⊢
            go_wp2_with fail
            go_meet
            case rel => exact ⟨by rw [HRES.out], rfl, rfl, PS.out.1, PS.out.2⟩
          by_cases hk6 : kind = 3 ∨ kind = 4 ∨ kind = 5 ∨ kind = 6
          · obtain ⟨hres, hcall⟩ := refDo_step ST.out G1.out (by omega) hm1 hk6 R3.out
            have HC := Lib.hid hcall; have HRES := Lib.hid hres
            clear hcall hres ST
            unfold refV keyV at HC
            simp only at HC
            rcases hk6 with rfl | rfl | rfl | rfl
            all_goals
              go_wp2_with fail
              refine HC.out.mono ?_
              rintro e w5 ⟨v5, rfl, h5, hb5⟩
              clear HC e0 e1 e2 e3 e4 e5 y0 y1 x0 x1
              obtain ⟨a5, c5, hs5, hc5, hr5⟩ := h5
              subst hs5
              have hR5 : RefAt w5 (.slice a5 (L2.map Bf.pb).length c5) (L2.map Bf.pb) := ⟨a5, c5, rfl, hc5, hr5⟩
              have mb5 := blk_below hb5 (blk_lt MB3.out) MB3.out
              have hPS := PSt.store (T2.out.below hb5) L2'.out ⟨hs2, hs3⟩ G2.out mb5 hR5 hl0 (RS.out.fr (Fr.below (S := fun _ => False) hb5) fun _ _ _ h => h)
              have z0 := free_blk (i := 0) mb5
              have z1 := free_blk (i := 1) mb5
              have u0 : w5.cell? ⟨mb, 0, none⟩ = some (.int .i64 m) := cell_blk_some mb5 rfl
              have u1 : w5.cell? ⟨mb, 1, none⟩ = some (.slice am nL cm) := cell_blk_some mb5 rfl
              have PS := Lib.hid hPS
              clear hPS mb5 hR5 hc5 hr5 hb5 T2 MB3 RS
              generalize (L2.map Bf.pb).length = n5 at PS ⊢
              go_wp2_with fail
              go_meet
              case rel => exact ⟨rfl, by rw [HRES.out]; rfl, by rw [HRES.out]; rfl, PS.out.1, PS.out.2⟩
          · obtain ⟨her, hres, hPP⟩ := other_step ST.out ⟨hk1, hk2, fun h => hk6 (.inl h), fun h => hk6 (.inr (.inl h)), fun h => hk6 (.inr (.inr (.inl h))), fun h => hk6 (.inr (.inr (.inr h)))⟩
            have HRES := Lib.hid hres; have HER := Lib.hid her; have HPP := Lib.hid hPP
            have q1 : (kind == 1) = false := beq_eq_false_iff_ne.2 hk1
            have q2 : (kind == 2) = false := beq_eq_false_iff_ne.2 hk2
            have q3 : (kind == 3) = false := beq_eq_false_iff_ne.2 fun h => hk6 (.inl h)
            have q4 : (kind == 4) = false := beq_eq_false_iff_ne.2 fun h => hk6 (.inr (.inl h))
            have q5 : (kind == 5) = false := beq_eq_false_iff_ne.2 fun h => hk6 (.inr (.inr (.inl h)))
            have q6 : (kind == 6) = false := beq_eq_false_iff_ne.2 fun h => hk6 (.inr (.inr (.inr h)))
            clear hres her hPP hk1 hk2 hk6
            go_wp2_with fail
            go_meet
            case rel => exact ⟨by rw [HER.out], by rw [HRES.out]; rfl, by rw [HRES.out]; rfl, ⟨Q2, L2, s2, F2, _, T2.out, L2'.out, ⟨hs2, hs3⟩, G2.out, MB3.out, by rw [HPP.out]; exact R3.out⟩, RS.out⟩
      case rest =>
        as_aux_lemma =>
          obtain ⟨rfl, rfl, rfl, hP, hRS⟩ := hcut
          obtain ⟨Qa, La, sa, Fa0, va, hTa0, hLa, ⟨hsa0, hsa1⟩, hGa, hma, hRa⟩ := hP
          obtain ⟨Fa, hTa, -, hTg⟩ := hTa0.tight
          have hFma : ¬ Fa mb := hTg.off hma (by decide)
          obtain ⟨av, cv2, hva⟩ : ∃ a c, va = .slice a (La.map Bf.pb).length c := by obtain ⟨a, c, h, _⟩ := hRa; exact ⟨a, c, h⟩
          subst hva
          have hlen : (La.map Bf.pb).length ≤ 4096 := Nat.le_trans hGa.len hm1
          have hlen2 : La.length ≤ 100000 := by rw [List.length_map] at hlen; omega
          -- the bytes that were answered
          have hbyt : ∃ a n c, bv = .slice a n c ∧ n ≤ 64 ∧ (∀ w', Below wc.heap.size wc w' → (convert 31 9 (.slice a n c)).run Try.prog w' = .ok (.string (strR res)) w') ∧
              ∃ gb, w.heap.size ≤ gb ∧ ¬ Fa gb ∧ gb ≠ mb ∧ (∀ g, BufRow wc g (La.map Bf.pb) → g ≠ gb) ∧ ByteRow wc gb n a := by
            cases res with
            | none =>
              obtain rfl : bv = .slice none 0 0 := hRS
              refine ⟨none, 0, 0, rfl, by omega, fun w' _ => conv_bys (B := 0) (ys := []) (.inl ⟨rfl, none, 0, rfl⟩), wc.heap.size, hTa.bel.size, fun h => by have := hTa.c.lt _ h; omega, fun h => by have := blk_lt hma; omega, fun g hg e => by have := hg.lt; omega, .inl rfl⟩
            | some l =>
              obtain ⟨hown, hl64⟩ := hRS
              have hall := (RB.out l rfl).1
              rcases hown.2 with ⟨_, h0⟩ | ⟨gb, cap, cur, rfl, hb, hg, hc, _, hs, ht⟩
              · omega
              · have hcl : ∀ j u, l[j]? = some u → wc.cell? ⟨gb, 0 + j, none⟩ = some u := fun j u hj => by
                  have hjl := (List.getElem?_eq_some_iff.1 hj).1
                  rw [Nat.zero_add]
                  rw [← ht, List.getElem?_take, if_pos (by omega), Array.getElem?_toList] at hj
                  exact cell_blk_some hg hj
                refine ⟨_, 64, cap, rfl, Nat.le_refl _, fun w' hb' => conv_row hall hl64 (fun j u hj => (World.cell?_of_block (w := wc) (a := ⟨gb, 0 + j, none⟩) (hb'.block gb (blk_lt hg))).trans (hcl j u hj)) cap, gb, hb, hTg.off hg (by decide), fun e => ?_, fun g hgr e => ?_, .inr ⟨rfl, cur, hg, fun j hj => ?_⟩⟩
                · rw [e, hma] at hg
                  injection hg with hg
                  injection hg with _ hg _
                  exact absurd hg (by decide)
                · obtain ⟨cur2, z, ht2⟩ := hgr.tag
                  rw [e, hg] at ht2
                  injection ht2 with ht2
                  injection ht2 with _ ht2 _
                  exact absurd ht2 (by decide)
                · obtain ⟨u, hu⟩ : ∃ u, l[j]? = some u := ⟨_, List.getElem?_eq_getElem (by omega)⟩
                  obtain ⟨z, rfl⟩ := hall u (List.mem_of_getElem? hu)
                  rw [← ht, List.getElem?_take, if_pos (by omega), Array.getElem?_toList] at hu
                  exact ⟨z, hu⟩
          obtain ⟨ba, bn, bc, rfl, hbn, hcv, gb, hgb0, hgbF, hgbm, hgbR, hgbB⟩ := hbyt
          have m0 : wc.cell? ⟨mb, 0, none⟩ = some (.int .i64 m) := cell_blk_some hma rfl
          have m1 : wc.cell? ⟨mb, 1, none⟩ = some (.slice av (La.map Bf.pb).length cv2) := cell_blk_some hma rfl
          have hmlt := blk_lt hma
          have CL := Lib.hid (fun (w' : World) (hb : Below wc.heap.size wc w') => len_law (hTa.below hb) hLa)
          have CO := Lib.hid (fun (w' : World) (hb : Below wc.heap.size wc w') => order_law (hTa.below hb) hLa hlen2)
          have CD := Lib.hid (fun (w' : World) (hb : Below wc.heap.size wc w') => dirty_law (hTa.below hb) hLa hlen2)
          have CR := Lib.hid (fun (w' : World) (hb : Below wc.heap.size wc w') => rOrder_law (room := (m : Int)) (hRa.below hb) (by omega))
          have CE := Lib.hid (fun (w' : World) (hb : Below wc.heap.size wc w') => rDirty_law (room := (m : Int)) (hRa.below hb) (by omega))
          have CS := Lib.hid (fun (w' : World) (v v' : Value) (h : Hid (KLaw w' (· = (La.map Bf.pb).map (·.k)) v)) (h' : Hid (KLaw w' (· = (La.map Bf.pb).map (·.k)) v')) => same_law (fun A B h1 h2 => h1.trans h2.symm) (fun A h => by rw [h, List.length_map]; omega) h h')
          have CT := Lib.hid (fun (w' : World) (v v' : Value) (h : Hid (KLaw w' (DirtyLaw (La.map Bf.pb)) v)) (h' : Hid (KLaw w' (DirtyLaw (La.map Bf.pb)) v')) => same_law dirtyLaw_one (fun A h => by have := dirtyLaw_len (Nat.le_refl _) A h; omega) h h')
          unfold refV at CR CE
          have TA := Lib.hid hTa; have LA := Lib.hid hLa; have GA := Lib.hid hGa; have MA := Lib.hid hma; have RA := Lib.hid hRa; have GR := Lib.hid hgbR; have GB := Lib.hid hgbB
          generalize hPl : (La.map Bf.pb).length = nP at CL CR CE MA m1 hlen ⊢
          have SB := Lib.hid (fun (w' : World) (hb : Below wc.heap.size wc w') => show (w'.cell? ⟨mb, 0, none⟩ = some (.int .i64 m) ∧ w'.cell? ⟨mb, 1, none⟩ = some (.slice av nP cv2)) ∧ (convert 31 9 (.slice ba bn bc)).run Try.prog w' = .ok (.string (strR res)) w' from
            ⟨⟨(World.cell?_of_block (w := wc) (a := ⟨mb, 0, none⟩) (hb.block mb hmlt)).trans m0, (World.cell?_of_block (w := wc) (a := ⟨mb, 1, none⟩) (hb.block mb hmlt)).trans m1⟩, hcv w' hb⟩)
          have hbd : Below wc.heap.size wc wc.drew := ⟨rfl, rfl, rfl, Nat.le_refl _, fun _ _ => rfl⟩
          clear T2 D3 G2 RS L2' ST KK3 MB3 R3 e0 e1 e2 e3 e4 e5 y0 y1 x0 x1 G1 hFm hRS hTa0 hTa hLa hGa hma hRa hTg hgbR hgbB m0 m1 hcv RB hs0 hs1 h3 h4 hs2 hs3
          generalize strR res = S0 at SB ⊢
          generalize res.isSome = ok0
          go_upto_region 28 with fail
          go_region_held3 (fun w' => (w'.cell? ⟨mb, 0, none⟩ = some (.int .i64 m) ∧ w'.cell? ⟨mb, 1, none⟩ = some (.slice av nP cv2)) ∧ (convert 31 9 (.slice ba bn bc)).run Try.prog w' = .ok (.string S0) w')
            (first | assumption | exact SB.out _ (by assumption))
            (first
              | (go_at_call 13
                 refine (CL.out _ (by assumption)).mono ?_
                 rintro e wL ⟨rfl, hn⟩
                 have hbL := below_more (by assumption) hn
                 clear hn
                 dsimp only)
              | (go_at_call 17
                 refine (CO.out _ (by assumption)).mono ?_
                 rintro e wO ⟨vO, rfl, kO, hn⟩
                 have hbO := below_more (by assumption) hn
                 clear hn
                 dsimp only)
              | (go_at_call 24
                 refine (CR.out _ (by assumption)).mono ?_
                 rintro e wR ⟨vR, rfl, kR, hn⟩
                 have kO2 := KLaw.below kO hn
                 have hbR := below_more (by assumption) hn
                 clear hn kO
                 dsimp only)
              | (go_at_call 23
                 refine (CS.out _ _ _ kO2 kR).mono ?_
                 rintro e wS ⟨rfl, hn⟩
                 have hbS := below_more (by assumption) hn
                 clear hn kO2 kR
                 dsimp only)
              | (go_at_call 25
                 refine (CD.out _ (by assumption)).mono ?_
                 rintro e wD ⟨vD, rfl, kD, hn⟩
                 have hbD := below_more (by assumption) hn
                 clear hn
                 dsimp only)
              | (go_at_call 26
                 refine (CE.out _ (by assumption)).mono ?_
                 rintro e wE ⟨vE, rfl, kE, hn⟩
                 have kD2 := KLaw.below kD hn
                 have hbE := below_more (by assumption) hn
                 clear hn kD
                 dsimp only)
              | (go_at_call 23
                 refine (CT.out _ _ _ kD2 kE).mono ?_
                 rintro e wT ⟨rfl, hn⟩
                 have hbT := below_more (by assumption) hn
                 clear hn kD2 kE
                 dsimp only))
          have HBT := Lib.hid hbT
          have hgbT : ByteRow wT gb bn ba := GB.out.imp id fun ⟨h1, cur, h2, h3⟩ => ⟨h1, cur, blk_below hbT (blk_lt h2) h2, h3⟩
          have BT := Lib.hid hgbT
          clear hbL hbO hbR hbS hbD hbE hbd hbT hgbT CL CO CD CR CE CS CT SB GB
          subst hPl
          go_wp2_with fail
          go_loopw [162] (fun i wy => ∃ t : Nat, t ≤ bn ∧ i = .int .i64 t ∧ Fr (fun x => x = gb) wT wy ∧ ByteRow wy gb bn ba) (fun i _ => bn - (intOf i).toNat)
          case atStart => exact ⟨0, Nat.zero_le _, rfl, Fr.refl _ _, BT.out⟩
          case round =>
            obtain ⟨t, ht, rfl, hfr, hr⟩ := hrel
            have HFR := Lib.hid hfr
            clear hfr BT
            by_cases hlt : t < bn
            · rcases hr with h0 | ⟨rfl, cur, hb, hz⟩
              · omega
              · obtain ⟨z, hz1⟩ := hz t hlt
                have c1 := cell_blk_some hb hz1
                have f1 := free_blk (i := t) hb
                have hnew := blk_set (i := t) hb (.int .u8 (IntKind.u8.wrap (z + 1)))
                have hks : t < cur.size := (Array.getElem?_eq_some_iff.1 hz1).1
                have hz2 : ∀ j, j < bn → ∃ z', (cur.setIfInBounds t (.int .u8 (IntKind.u8.wrap (z + 1))))[j]? = some (.int .u8 z') := fun j hj => by
                  by_cases hkj : t = j
                  · subst hkj
                    exact ⟨_, by rw [Array.getElem?_setIfInBounds, if_pos rfl, if_pos hks]⟩
                  · rw [Array.getElem?_setIfInBounds, if_neg hkj]
                    exact hz j hj
                have m1 : (t : Int) < (bn : Int) := by omega
                have m2 : (0 : Int) ≤ (t : Int) := by omega
                have HN := Lib.hid hnew; have HZ := Lib.hid hz2
                clear hb hz hz1 hnew hz2 hks
                go_wp2_with fail
                go_roundw
                case rel => exact ⟨t + 1, by omega, by go_num, HFR.out.setCell ⟨gb, t, none⟩ rfl _, .inr ⟨rfl, _, HN.out, HZ.out⟩⟩
                case measure => simp [intOf]; omega
            · obtain rfl : t = bn := by omega
              have hft := ((Fr.below (S := fun _ => False) HBT.out).mono fun _ _ h => h.elim).trans HFR.out
              have PS := Lib.hid (⟨Qa, La, sa, Fa, _, TA.out.other hft hgbF hgb0, LA.out, ⟨hsa0, hsa1⟩, GA.out, (hft.block mb hmlt (Ne.symm hgbm)).trans MA.out, RA.out.fr hft fun g hg e => GR.out g hg e⟩ : PSt w wr cb mb m (p + 1))
              clear hr hft TA LA GA MA RA GR
              go_wp2_with fail
              go_roundg f
              case rel => exact ⟨p + 1, by omega, by omega, by go_num, PS.out⟩
              all_goals omega
    · as_aux_lemma =>
        by_cases hg1 : p < ops.length
        focus
          obtain rfl : p = 80 := by omega
          go_wp2_with fail
        rotate_left
        focus
          obtain rfl : p = ops.length := by omega
          go_wp2_with fail
        all_goals
          go_ret
          exact ⟨rfl, T.out.bel⟩

set_option maxHeartbeats 8000000 in
set_option maxRecDepth 100000 in
theorem lawPlays_off (r : Int) (hr : r < 1 ∨ 4096 < r) (v : Value) (w : World) :
    Calls Try.prog 6 #[.int .i64 r, v] w fun e w' => e = .returned (.bool true) ∧ Below w.heap.size w w' := by
  have HN := Lib.hid (fun w => cNew_bad hr w)
  have HR := Lib.hid (fun w => refNew_bad (w := w) hr)
  clear hr
  unfold refV at HR
  go_enter Try.func6, Try.ntmps6
  go_wp2_with fail
  refine (awake_any _).mono ?_
  rintro e w1 ⟨rfl, hb1⟩
  go_wp2_with fail
  refine (HN.out _).mono ?_
  rintro e w2 ⟨rfl, rfl⟩
  go_wp2_with fail
  refine (HR.out _).mono ?_
  rintro e w3 ⟨rfl, hb3⟩
  have HB := Lib.hid (below_alloc (below_more hb1 hb3) (Nat.le_refl _) (.cells #[.int .i64 0, .slice none 0 0] 52))
  clear hb1 hb3
  go_wp2_with fail
  go_loopw [9] (fun i wr => i = .int .i64 0 ∧ wr = w3.alloc (.cells #[.int .i64 0, .slice none 0 0] 52)) (fun _ _ => 0)
  case atStart => exact ⟨rfl, rfl⟩
  case round =>
    obtain ⟨rfl, rfl⟩ := hrel
    go_wp2_with fail
    go_ret
    exact ⟨rfl, HB.out⟩

theorem lawPlays_any (r : Int) (v : Value) (ops : List (Opr × Value)) (w : World) (hv : OpsAt w.heap.size w v ops) :
    Calls Try.prog 6 #[.int .i64 r, v] w fun e w' => e = .returned (.bool true) ∧ Below w.heap.size w w' := by
  by_cases hr : 1 ≤ r ∧ r ≤ 4096
  · obtain ⟨m, rfl⟩ : ∃ m : Nat, r = m := ⟨r.toNat, by omega⟩
    exact lawPlays_in m (by omega) (by omega) v ops w hv
  · exact lawPlays_off r (by omega) v w
end Go.Proofs.Ytjldocpjoiibjaa
