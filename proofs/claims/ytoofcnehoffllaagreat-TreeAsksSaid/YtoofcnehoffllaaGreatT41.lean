/- A tree beside other memory of the call; a tree of one file of bytes, plainly. -/
/- A tree beside a row of bytes of the call's own. -/
import Derived.Test.YtoofcnehoffllaaGreatT35
namespace Go.Proofs.YtoofcnehoffllaaGreat
open Go.RowKit

/-- A tree of a call's own: its blocks, which are there, are in F. -/
structure LFt (w0 w : World) (tb cap : Nat) (F : Nat → Prop) (M : TM) : Prop where
  at_ : TAt w tb cap F M
  good : Good M cap
  low : ∀ b, F b → w0.heap.size ≤ b
  lt : ∀ b, F b → b < w.heap.size
  bel : Below w0.heap.size w0 w
section
variable {w0 w w' : World} {tb nb cap : Nat} {P E : Nat → Option Nat} {V : Nat → Value} {M M' : TM} {F : Nat → Prop}
theorem TIn.foot_lt (h : TIn w tb nb cap P E V M) {b : Nat} (hb : TFoot tb nb P E V b) : b < w.heap.size := by
  rcases hb with h1 | h1 | ⟨i, h1⟩ | ⟨i, h1⟩ | ⟨i, h1⟩
  · rw [h1]; exact blk_lt h.top
  · obtain ⟨cs, hr, _⟩ := h.row
    rw [h1]; exact blk_lt hr
  · have hs : (M i).isSome = true := by rw [← h.dom i, h1]; rfl
    obtain ⟨nd, hm⟩ := Option.isSome_iff_exists.1 hs
    exact blk_lt (h.node i b nd h1 hm)
  · obtain ⟨es, c, hm⟩ := h.elt h1
    exact blk_lt hm
  · cases hm : M i with
    | none => rw [(h.eno i hm).2] at h1; cases h1
    | some nd => exact (World.ownsRow.lt (h.data i nd hm) b h1).2
theorem LAt.ft (h : LAt w0 w tb cap M) : ∃ F, LFt w0 w tb cap F M := by
  obtain ⟨nb, P, E, V, hT, hF⟩ := h.at_
  exact ⟨TFoot tb nb P E V, ⟨nb, P, E, V, hT, fun _ hb => hb⟩, h.good, fun b hb => hF b hb, fun b hb => hT.foot_lt hb, h.bel⟩
theorem LFt.at0 (h : LFt w0 w tb cap F M) : LAt w0 w tb cap M := by
  obtain ⟨nb, P, E, V, hT, hF⟩ := h.at_
  exact ⟨⟨nb, P, E, V, hT, fun b hb => h.low b (hF b hb)⟩, h.good, h.bel⟩
/-- Behind a call of the tree's. -/
theorem LFt.left (h : LFt w0 w tb cap F M) (hl : TLeft w w' tb cap F M') (hg : Good M' cap) : ∃ F', LFt w0 w' tb cap F' M' ∧ ∀ b, b < w.heap.size → ¬ F b → ¬ F' b := by
  obtain ⟨⟨nb, P, E, V, hT, hF⟩, hfr⟩ := hl
  have hs := h.bel.size
  refine ⟨fun b => (F b ∨ w.heap.size ≤ b) ∧ b < w'.heap.size, ⟨⟨nb, P, E, V, hT, fun b hb => ⟨hF b hb, hT.foot_lt hb⟩⟩, hg, fun b hb => hb.1.elim (h.low b) fun h1 => by omega, fun b hb => hb.2, h.bel.trans (hfr.toBelow hs h.low)⟩, fun b hb hn hf => hf.1.elim hn fun h1 => by omega⟩
/-- Behind what turns other blocks alone. -/
theorem LFt.other {S : Nat → Prop} (h : LFt w0 w tb cap F M) (hf : Fr S w w') (hs : ∀ b, S b → w0.heap.size ≤ b) (hn : ∀ b, F b → ¬ S b) : LFt w0 w' tb cap F M := by
  obtain ⟨nb, P, E, V, hT, hF⟩ := h.at_
  exact ⟨⟨nb, P, E, V, hT.fr hf fun b hb => hn b (hF b hb), hF⟩, h.good, h.low, fun b hb => Nat.lt_of_lt_of_le (h.lt b hb) hf.size, h.bel.trans (hf.toBelow h.bel.size hs)⟩
theorem LFt.below (h : LFt w0 w tb cap F M) (hb : Below w.heap.size w w') : LFt w0 w' tb cap F M := h.other (S := fun _ => False) (Fr.below hb) (fun _ h => h.elim) fun _ _ h => h
end
/-- The file 3 with a name and bytes. -/
def dataM (s : ByteArray) (D : List Int) : TM := fun x => if x = 2 then some ⟨some fun t => if t = s then some 3 else none, [], 1⟩ else if x = 3 then some ⟨none, D, 1⟩ else none
section
variable {s : ByteArray} {D : List Int}
theorem dat_root : dataM s D 2 = some ⟨some fun t => if t = s then some 3 else none, [], 1⟩ := if_pos rfl
theorem dat_three : dataM s D 3 = some ⟨none, D, 1⟩ := by unfold dataM; rw [if_neg (by decide), if_pos rfl]
theorem dat_file : isDir (dataM s D) 3 = false := by rw [isDir_of dat_three]; rfl
theorem dat_ent : entN (dataM s D) 2 s = some 3 := by rw [entN_of dat_root]; exact if_pos rfl
theorem dat_new : addM newM 3 (freshNd false) 2 s = dataM s [] := by
  funext x
  by_cases e3 : x = 3
  · rw [e3, addM_i, dat_three]; rfl
  · by_cases e2 : x = 2
    · rw [e2, addM_p (q := ⟨some fun _ => none, [], 1⟩) (by decide) rfl, dat_root]
      rfl
    · rw [addM_o e3 e2]
      unfold dataM newM
      rw [if_neg e2, if_neg e2, if_neg e3]
theorem dat_set {D' : List Int} : setN (dataM s D) 3 (lkN (dataM s D) 3) D' = dataM s D' := by
  funext x
  by_cases e3 : x = 3
  · rw [e3, setN_i dat_three, dat_three, lkN_of dat_three]
  · rw [setN_o e3]
    unfold dataM
    by_cases e2 : x = 2
    · rw [if_pos e2, if_pos e2]
    · rw [if_neg e2, if_neg e3, if_neg e2, if_neg e3]
theorem dat_look (hs : nameE s.data.toList = 0) : fileN (dataM s D) (pathS [s] false) = .inl 3 := by
  unfold fileN
  rw [root_look hs dat_ent]
  dsimp only
  rw [dat_file]; rfl
theorem dat_trunc (hs : nameE s.data.toList = 0) {k : Nat} (hk : k ≤ 38400) : truncN (dataM s D) (pathS [s] false) k = (0, dataM s (sizedN D k)) := by
  unfold truncN
  rw [dat_look hs]
  dsimp only
  rw [if_neg (by omega), if_neg (by omega), dat_set, datN_of dat_three, Int.toNat_natCast]
theorem dat_write (hs : nameE s.data.toList = 0) {k : Nat} {x : List Int} (hx : x.length ≤ 4096) (hk : k + x.length ≤ 38400) : writeN (dataM s D) (pathS [s] false) k x = (0, dataM s (if x.length = 0 then D else wrData D k x)) := by
  unfold writeN
  rw [dat_look hs]
  dsimp only
  rw [if_neg (by omega), if_neg (by omega)]
  by_cases h0 : x.length = 0
  · rw [if_pos h0, if_pos h0]
  · rw [if_neg h0, if_neg h0, dat_set, datN_of dat_three, Int.toNat_natCast]
theorem dat_read (hs : nameE s.data.toList = 0) (hD : D.length ≤ 4096) : readN (dataM s D) (pathS [s] false) 0 4096 = (D, 0) := by
  unfold readN
  rw [dat_look hs]
  dsimp only
  rw [if_neg (by omega), datN_of dat_three]
  show ((D.drop 0).take 4096, (0 : Int)) = _
  rw [List.drop_zero, List.take_of_length_le hD]
theorem dat_stat (hs : nameE s.data.toList = 0) : statN (dataM s D) (pathS [s] false) = ((3, 1, 1, (D.length : Int)), 0) := by
  unfold statN
  rw [root_look hs dat_ent]
  dsimp only
  rw [dat_file, lkN_of dat_three, datN_of dat_three]
  rfl
end
section
variable {w : World} {B g n c : Nat} {xs : List Value}
/-- A cell of a row laid anew. -/
theorem own_setAt (h : w.ownsRow B 5 1 (.slice (some ⟨g, 0, none⟩) n c) n xs) {j : Nat} (z : Int) : (w.setCell ⟨g, j, none⟩ (.int .u8 z)).ownsRow B 5 1 (.slice (some ⟨g, 0, none⟩) n c) n (xs.set j (.int .u8 z)) := by
  refine ⟨by rw [List.length_set]; exact h.1, ?_⟩
  rcases h.2 with ⟨h1, h2⟩ | ⟨g', cap, cur, h1, h2, h3, h4, h5, h6, h7⟩
  · injection h1 with e1; cases e1
  · injection h1 with e1 _ e3
    injection e1 with e1
    injection e1 with e1
    subst e1 e3
    refine .inr ⟨g, c, _, rfl, h2, blk_set h3 (.int .u8 z), h4, h5, by rw [Array.size_setIfInBounds]; exact h6, ?_⟩
    rw [Array.toList_setIfInBounds, List.take_set, h7]
theorem splice_set {L x : List Int} {p k : Nat} {z : Int} (hz : x[k]? = some z) (hp : p + x.length ≤ L.length) : (splice L p (x.take k)).set (p + k) z = splice L p (x.take (k + 1)) := by
  have hk : k < x.length := (List.getElem?_eq_some_iff.1 hz).1
  apply List.ext_getElem?
  intro j
  unfold splice
  simp only [List.getElem?_set, List.getElem?_append, List.getElem?_take, List.getElem?_drop, List.length_append, List.length_take, List.length_drop]
  grind
theorem splice_zero {L x : List Int} {p : Nat} : splice L p (x.take 0) = L := by unfold splice; simp
end
end Go.Proofs.YtoofcnehoffllaaGreat

namespace Go.Proofs.YtoofcnehoffllaaGreat
open Go.RowKit

structure WSt (W w : World) (tb : Nat) (F : Nat → Prop) (M : TM) (wv : Value) (L : List Int) : Prop where
  lft : LFt W w tb 5 F M
  own : w.ownsRow W.heap.size 5 1 wv L.length (u8s L)
  sep : ∀ b, wv.ownBlock = some b → ¬ F b
section
variable {W w w' : World} {tb : Nat} {F : Nat → Prop} {M M' : TM} {wv v : Value} {L : List Int}
theorem WSt.below (h : WSt W w tb F M wv L) (hb : Below w.heap.size w w') : WSt W w' tb F M wv L := ⟨h.lft.below hb, own_frame h.own (S := fun _ => False) (Fr.below hb) fun _ _ => id, h.sep⟩
theorem WSt.nil (h : LFt W w tb 5 F M) : WSt W w tb F M (.slice none 0 0) [] := ⟨h, ⟨rfl, .inl ⟨rfl, rfl⟩⟩, fun b hb => by cases hb⟩
/-- Behind a call of the tree's. -/
theorem WSt.left (h : WSt W w tb F M wv L) (hl : TLeft w w' tb 5 F M') (hg : Good M' 5) : ∃ F', WSt W w' tb F' M' wv L := by
  obtain ⟨F', hf, hs⟩ := h.lft.left hl hg
  exact ⟨F', hf, own_frame h.own hl.2 h.sep, fun b hb => hs b (World.ownsRow.lt h.own b hb).2 (h.sep b hb)⟩
/-- One byte more. -/
theorem WSt.push (h : WSt W w tb F M wv L) {o : Obj} {z : Int} (ho : w'.ownsRow W.heap.size 5 1 v (L.length + 1) (u8s L ++ [.int .u8 z])) (hf : Fr (fun x => wv.ownBlock = some x) (w.alloc o) w') (hv : v.ownBlock = wv.ownBlock ∨ v.ownBlock = some (w.heap.size + 1)) : WSt W w' tb F M v (L ++ [z]) := by
  have hw : Fr (fun x => wv.ownBlock = some x) w w' := ((Fr.refl _ w).alloc o).trans hf
  refine ⟨h.lft.other hw (fun b hb => (World.ownsRow.lt h.own b hb).1) (fun b hb hs => h.sep b hs hb), ?_, fun b hb hF => ?_⟩
  · rw [List.length_append, List.length_singleton, u8s_append]
    exact ho
  · rcases hv with e | e
    · exact h.sep b (by rw [← e]; exact hb) hF
    · rw [e] at hb
      injection hb with hb
      have := h.lft.lt b hF
      omega
theorem WSt.cut {a : Option Addr} {c : Nat} (h : WSt W w tb F M (.slice a L.length c) L) {k : Nat} (hk : k ≤ L.length) : WSt W w tb F M (.slice a k c) (L.take k) := by
  refine ⟨h.lft, ?_, fun b hb => h.sep b (by cases a with | none => cases hb | some ad => exact hb)⟩
  rw [List.length_take, Nat.min_eq_left hk, u8s_take]
  exact own_cut h.own hk
theorem WSt.set {g c : Nat} (h : WSt W w tb F M (.slice (some ⟨g, 0, none⟩) L.length c) L) (j : Nat) (z : Int) : WSt W (w.setCell ⟨g, j, none⟩ (.int .u8 z)) tb F M (.slice (some ⟨g, 0, none⟩) L.length c) (L.set j z) := by
  refine ⟨h.lft.other (S := fun x => x = g) ((Fr.refl (fun x => x = g) w).setCell ⟨g, j, none⟩ rfl _) (fun b hb => by rw [hb]; exact (World.ownsRow.lt h.own g rfl).1) (fun b hb e => h.sep g rfl (by rw [← e]; exact hb)), ?_, h.sep⟩
  have := own_setAt h.own (j := j) z
  rw [List.length_set]
  have e : u8s (L.set j z) = (u8s L).set j (.int .u8 z) := by unfold u8s; rw [List.map_set]
  rw [e]
  exact this
end
/-- An argument of the type []byte. -/
def ArgB (W : World) (v : Value) (ys : List Int) : Prop :=
  ∃ a c, v = .slice a ys.length c ∧ ys.length ≤ c ∧ (0 < ys.length → ∃ g o, a = some ⟨g, o, none⟩ ∧ g < W.heap.size ∧ ∀ (j : Nat) x, ys[j]? = some x → W.cell? ⟨g, o + j, none⟩ = some (.int .u8 x))
/-- An argument of the type [][2]int. -/
def ArgW (W : World) (v : Value) (xs : List (Int × Int)) : Prop :=
  ∃ a c, v = .slice a xs.length c ∧ (0 < xs.length → ∃ g o, a = some ⟨g, o, none⟩ ∧ g < W.heap.size ∧ ∀ (i : Nat) x, xs[i]? = some x → W.cell? ⟨g, o + i * 2, none⟩ = some (.int .i64 x.1) ∧ W.cell? ⟨g, o + i * 2 + 1, none⟩ = some (.int .i64 x.2))
def lenV : Value → Nat
  | .slice _ n _ => n
  | _ => 0
theorem sized_grow {D : List Int} {n : Nat} : D ++ List.replicate (n - D.length) 0 = sizedN D (max D.length n) := by
  unfold sizedN
  by_cases h : D.length ≤ n
  · rw [Nat.max_eq_right h, List.take_of_length_le (by rw [List.length_append, List.length_replicate]; omega)]
  · rw [Nat.max_eq_left (by omega), show n - D.length = 0 by omega, show D.length - D.length = 0 by omega, List.replicate_zero, List.append_nil, List.take_length]
theorem sized_cut {D : List Int} {n : Nat} : (D ++ List.replicate (n - D.length) 0).take n = sizedN D n := rfl
/-- The texts of bytes. -/
theorem strOf_same {x y : List Int} (h : x = y) : strOfNums x = strOfNums y := by rw [h]
end Go.Proofs.YtoofcnehoffllaaGreat
