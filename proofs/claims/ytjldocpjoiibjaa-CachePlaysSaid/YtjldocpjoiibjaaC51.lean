/- The document's cache in memory: a row of its buffers; walks of marlref09.Find. -/
/- Walks of marlref09.without and used. -/
import Derived.Test.YtjldocpjoiibjaaC40
import Derived.Test.YtjldocpjoiibjaaC28
import Derived.Deep.AppendLies
import Derived.Deep.RegionLaw
namespace Go.Proofs.Ytjldocpjoiibjaa
open Go.RowKit

def cellsB (b : Pb) : List Value := [.int .i64 b.k.1, .int .i64 b.k.2, .string (strD b.data), .bool b.dirty, .int .i64 b.pins]
def flatB (P : List Pb) : List Value := P.flatMap cellsB
def valB (b : Pb) : Value := .agg #[.int .i64 b.k.1, .int .i64 b.k.2, .string (strD b.data), .bool b.dirty, .int .i64 b.pins]
structure BufRow (w : World) (g : Nat) (P : List Pb) : Prop where
  c0 : ∀ (i : Nat) b, P[i]? = some b → w.cell? ⟨g, i * 5, none⟩ = some (.int .i64 b.k.1)
  c1 : ∀ (i : Nat) b, P[i]? = some b → w.cell? ⟨g, i * 5 + 1, none⟩ = some (.int .i64 b.k.2)
  c2 : ∀ (i : Nat) b, P[i]? = some b → w.cell? ⟨g, i * 5 + 2, none⟩ = some (.string (strD b.data))
  c3 : ∀ (i : Nat) b, P[i]? = some b → w.cell? ⟨g, i * 5 + 3, none⟩ = some (.bool b.dirty)
  c4 : ∀ (i : Nat) b, P[i]? = some b → w.cell? ⟨g, i * 5 + 4, none⟩ = some (.int .i64 b.pins)
  lt : g < w.heap.size
  tag : ∃ cur z, w.heap[g]? = some (.cells cur 86 z)
def RefAt (w : World) (v : Value) (P : List Pb) : Prop := ∃ a c, v = .slice a P.length c ∧ P.length ≤ c ∧ (0 < P.length → ∃ g, a = some ⟨g, 0, none⟩ ∧ BufRow w g P)
theorem BufRow.same {w w' : World} {g : Nat} {P : List Pb} (h : BufRow w g P) (hb : w'.heap[g]? = w.heap[g]?) (hl : w.heap.size ≤ w'.heap.size) : BufRow w' g P :=
  ⟨fun i b hi => (World.cell?_of_block (w := w) (a := ⟨g, i * 5, none⟩) hb).trans (h.c0 i b hi), fun i b hi => (World.cell?_of_block (w := w) (a := ⟨g, i * 5 + 1, none⟩) hb).trans (h.c1 i b hi),
   fun i b hi => (World.cell?_of_block (w := w) (a := ⟨g, i * 5 + 2, none⟩) hb).trans (h.c2 i b hi), fun i b hi => (World.cell?_of_block (w := w) (a := ⟨g, i * 5 + 3, none⟩) hb).trans (h.c3 i b hi),
   fun i b hi => (World.cell?_of_block (w := w) (a := ⟨g, i * 5 + 4, none⟩) hb).trans (h.c4 i b hi), Nat.lt_of_lt_of_le h.lt hl, h.tag.imp fun _ h => h.imp fun _ h => hb.trans h⟩
theorem RefAt.below {w w' : World} {v : Value} {P : List Pb} (h : RefAt w v P) (hb : Below w.heap.size w w') : RefAt w' v P := by
  obtain ⟨a, c, rfl, hc, h2⟩ := h
  refine ⟨a, c, rfl, hc, fun h0 => ?_⟩
  obtain ⟨g, h3, h4⟩ := h2 h0
  exact ⟨g, h3, h4.same (hb.block g h4.lt) hb.size⟩
theorem flatB_length (P : List Pb) : (flatB P).length = P.length * 5 := by
  induction P with
  | nil => rfl
  | cons a P ih => simp [flatB, cellsB] at ih ⊢; omega
theorem flatB_append (P R : List Pb) : flatB (P ++ R) = flatB P ++ flatB R := by simp [flatB]
theorem flatB_one (P : List Pb) : ∀ u ∈ flatB P, u.oneCell' = true := fun u hu => by
  obtain ⟨b, _, hb⟩ := List.mem_flatMap.1 hu
  simp [cellsB] at hb
  rcases hb with rfl | rfl | rfl | rfl | rfl <;> rfl
theorem flatB_at : ∀ (P : List Pb) (i : Nat) (b : Pb), P[i]? = some b → ∀ j, j < 5 → (flatB P)[i * 5 + j]? = (cellsB b)[j]?
  | [], _, _, h, _, _ => by simp at h
  | a :: P, 0, b, h, j, hj => by
    obtain rfl : a = b := by simpa using h
    show (cellsB a ++ flatB P)[0 * 5 + j]? = _
    rw [Nat.zero_mul, Nat.zero_add, List.getElem?_append_left (by simpa [cellsB] using hj)]
  | a :: P, i + 1, b, h, j, hj => by
    have ih := flatB_at P i b (by simpa using h) j hj
    show (cellsB a ++ flatB P)[(i + 1) * 5 + j]? = _
    rw [List.getElem?_append_right (by simp [cellsB]; omega), ← ih]
    congr 1
    simp [cellsB]; omega
theorem buf_own {w : World} {B n : Nat} {v : Value} {P : List Pb} (h : w.ownsRow B 86 5 v n (flatB P)) : RefAt w v P ∧ P.length = n := by
  have hl : P.length = n := by have := h.1; rw [flatB_length] at this; omega
  subst hl
  refine ⟨?_, rfl⟩
  rcases h.2 with ⟨rfl, h0⟩ | ⟨g, cap, cur, rfl, hb, hg, hc, _, hs, ht⟩
  · exact ⟨none, 0, by rw [h0], by omega, fun h => by omega⟩
  · refine ⟨_, cap, rfl, hc, fun _ => ⟨g, rfl, ?_⟩⟩
    have hat : ∀ (i : Nat) b, P[i]? = some b → ∀ j, j < 5 → cur[i * 5 + j]? = (cellsB b)[j]? := fun i b hi j hj => by
      have hil := (List.getElem?_eq_some_iff.1 hi).1
      rw [← flatB_at P i b hi j hj, ← ht, List.getElem?_take, if_pos (by omega), Array.getElem?_toList]
    exact ⟨fun i b hi => cell_blk_some hg (hat i b hi 0 (by omega)), fun i b hi => cell_blk_some hg (hat i b hi 1 (by omega)), fun i b hi => cell_blk_some hg (hat i b hi 2 (by omega)),
      fun i b hi => cell_blk_some hg (hat i b hi 3 (by omega)), fun i b hi => cell_blk_some hg (hat i b hi 4 (by omega)), blk_lt hg, ⟨_, _, hg⟩⟩

def refV (room : Int) (v : Value) : Value := .agg #[.int .i64 room, v]
/-- Where a key stands. -/
theorem find_at {A B : List Pb} {b : Pb} (hn : ((A ++ b :: B).map (·.k)).Nodup) : ∀ (i : Nat) x, (A ++ b :: B)[i]? = some x → (x.k = b.k ↔ i = A.length) := fun i x hx => by
  have h1 : ((A ++ b :: B).map (·.k))[A.length]? = some b.k := by simp
  have h2 : ((A ++ b :: B).map (·.k))[i]? = some x.k := by rw [List.getElem?_map, hx]; rfl
  have hl : A.length < ((A ++ b :: B).map (·.k)).length := by simp
  constructor
  · intro e
    rw [e] at h2
    exact ((List.getElem?_inj hl hn).1 (h1.trans h2.symm)).symm
  · rintro rfl
    exact Option.some.inj (h2.symm.trans h1)

set_option maxHeartbeats 2000000 in
set_option maxRecDepth 100000 in
theorem find_any {w : World} {v : Value} {P : List Pb} {room : Int} {k : Int × Int} (h : RefAt w v P) (hl : P.length ≤ 100000) {r : Int}
    (hr : (r = -1 ∧ ∀ b ∈ P, b.k ≠ k) ∨ (∃ n : Nat, r = n ∧ n < P.length ∧ ∀ (i : Nat) x, P[i]? = some x → (x.k = k ↔ i = n))) :
    Calls Try.prog 40 #[refV room v, keyV k] w fun e w' => e = .returned (.int .i64 r) ∧ Below w.heap.size w w' := by
  obtain ⟨k1, k2⟩ := k
  obtain ⟨a, c, rfl, -, hrow⟩ := h
  unfold refV keyV
  have hbx := below_alloc (below_alloc (Below.refl _ w) (Nat.le_refl _) (.cells #[.int .i64 room, .slice a P.length c] 52)) (Nat.le_refl _) (.cells #[.int .i64 k1, .int .i64 k2] 55)
  have HR := Lib.hid hrow
  clear hrow
  go_enter Try.func40, Try.ntmps40
  go_wp2_with fail
  obtain ⟨w1, hw1⟩ : ∃ w1, w1 = (w.alloc (.cells #[.int .i64 room, .slice a P.length c] 52)).alloc (.cells #[.int .i64 k1, .int .i64 k2] 55) := ⟨_, rfl⟩
  have bc : w1.heap[w.heap.size]? = some (.cells #[.int .i64 room, .slice a P.length c] 52 (0, 0)) := by rw [hw1]; exact blk_old (blk_new rfl)
  have bk : w1.heap[w.heap.size + 1]? = some (.cells #[.int .i64 k1, .int .i64 k2] 55 (0, 0)) := by rw [hw1]; exact blk_new (by simp)
  rw [← hw1] at hbx ⊢
  generalize w.heap.size + 1 = kb at bk ⊢
  generalize hcb : w.heap.size = cb at bc ⊢
  rw [hcb] at hbx
  have HB := Lib.hid hbx; have BC := Lib.hid bc; have BK := Lib.hid bk; have HS := Lib.hid hcb
  clear hbx bc bk hw1 hcb
  have hfin : ∀ wz, Fr (fun _ => False) w1 wz → Below w.heap.size w wz := fun wz hf => by
    have h2 := HB.out
    rw [← HS.out] at h2
    exact h2.trans (hf.toBelow (B := w.heap.size) h2.size fun _ h => h.elim)
  have HFIN := Lib.hid hfin; clear hfin
  go_loopw [9] (fun i wr => ∃ t : Nat, t ≤ P.length ∧ i = .int .i64 t ∧ Fr (fun _ => False) w1 wr ∧ ∀ (j : Nat) x, j < t → P[j]? = some x → x.k ≠ (k1, k2)) (fun i _ => P.length - (intOf i).toNat)
  case atStart => exact ⟨0, Nat.zero_le _, rfl, Fr.refl _ _, fun j x h => by omega⟩
  case round =>
    obtain ⟨t, ht, rfl, hf, hno⟩ := hrel
    have F1 := Lib.hid hf; have NO := Lib.hid hno
    clear hf hno
    by_cases hlt : t < P.length
    · obtain ⟨g, rfl, hg⟩ := HR.out (by omega)
      obtain ⟨b, hb⟩ : ∃ b, P[t]? = some b := ⟨_, List.getElem?_eq_getElem hlt⟩
      have hgw : w1.heap[g]? = w.heap[g]? := HB.out.block g (by rw [← HS.out]; exact hg.lt)
      have hg2 := (hg.same hgw (by have h2 := HB.out.size; exact h2)).same (F1.out.block g (by have := hg.lt; have h2 := HB.out.size; have h3 := HS.out; omega) id) F1.out.size
      have d0 := hg2.c0 t b hb
      have d1 := hg2.c1 t b hb
      have e1 : wr.cell? ⟨cb, 1, none⟩ = some (.slice (some ⟨g, 0, none⟩) P.length c) := (World.cell?_of_block (w := w1) (a := ⟨cb, 1, none⟩) (F1.out.block cb (blk_lt BC.out) id)).trans (cell_blk_some BC.out rfl)
      have f0 : wr.cell? ⟨kb, 0, none⟩ = some (.int .i64 k1) := (World.cell?_of_block (w := w1) (a := ⟨kb, 0, none⟩) (F1.out.block kb (blk_lt BK.out) id)).trans (cell_blk_some BK.out rfl)
      have f1 : wr.cell? ⟨kb, 1, none⟩ = some (.int .i64 k2) := (World.cell?_of_block (w := w1) (a := ⟨kb, 1, none⟩) (F1.out.block kb (blk_lt BK.out) id)).trans (cell_blk_some BK.out rfl)
      have m1 : (t : Int) < (P.length : Int) := by omega
      have m2 : (0 : Int) ≤ (t : Int) := by omega
      obtain ⟨⟨x1, x2⟩, dt, dy, pn⟩ := b
      simp only at d0 d1
      by_cases hk : (x1, x2) = (k1, k2)
      · obtain ⟨rfl, rfl⟩ := Prod.mk.inj hk
        have hrt : r = t := by
          rcases hr with ⟨_, hall⟩ | ⟨n, rfl, hn, hiff⟩
          · exact absurd rfl (hall _ (List.mem_of_getElem? hb))
          · have := (hiff t _ hb).1 rfl
            rw [this]
        subst hrt
        clear hg hg2 hgw hb hr
        go_wp2_with fail
        go_quiet (fail)
        go_wp2_with fail
        go_ret
        exact ⟨rfl, HFIN.out _ (F1.out.drewN _)⟩
      · have hno2 : ∀ (j : Nat) x, j < t + 1 → P[j]? = some x → x.k ≠ (k1, k2) := fun j x hj hx => by
          by_cases hjt : j < t
          · exact NO.out j x hjt hx
          · obtain rfl : j = t := by omega
            rw [hb] at hx
            rw [← Option.some.inj hx]; exact hk
        have NO2 := Lib.hid hno2
        clear hg hg2 hgw hno2
        by_cases h1 : x1 = k1
        · have h2 : (x2 == k2) = false := beq_eq_false_iff_ne.2 fun e => hk (by rw [h1, e])
          subst h1
          go_wp2_with fail
          go_quiet (fail)
          go_wp2_with fail
          go_round
          case rel => exact ⟨t + 1, by omega, by go_num, F1.out.drewN _, NO2.out⟩
          case measure => simp [intOf]; omega
        · have h2 : (x1 == k1) = false := beq_eq_false_iff_ne.2 h1
          go_wp2_with fail
          go_quiet (fail)
          go_wp2_with fail
          go_round
          case rel => exact ⟨t + 1, by omega, by go_num, F1.out.drewN _, NO2.out⟩
          case measure => simp [intOf]; omega
    · obtain rfl : t = P.length := by omega
      have hr1 : r = -1 := by
        rcases hr with ⟨h, _⟩ | ⟨n, rfl, hn, hiff⟩
        · exact h
        · have hb := List.getElem?_eq_getElem hn
          exact absurd ((hiff n _ hb).2 rfl) (NO.out n _ hn hb)
      subst hr1
      clear hr
      go_wp2_with fail
      go_ret
      exact ⟨rfl, HFIN.out _ F1.out⟩
theorem find_hit {w : World} {v : Value} {A B : List Pb} {b : Pb} {room : Int} (h : RefAt w v (A ++ b :: B)) (hl : (A ++ b :: B).length ≤ 100000) (hn : ((A ++ b :: B).map (·.k)).Nodup) :
    Calls Try.prog 40 #[refV room v, keyV b.k] w fun e w' => e = .returned (.int .i64 (A.length : Int)) ∧ Below w.heap.size w w' :=
  find_any h hl (.inr ⟨A.length, rfl, by simp, find_at hn⟩)
theorem find_miss {w : World} {v : Value} {P : List Pb} {room : Int} {k : Int × Int} (h : RefAt w v P) (hl : P.length ≤ 100000) (hn : ∀ b ∈ P, b.k ≠ k) :
    Calls Try.prog 40 #[refV room v, keyV k] w fun e w' => e = .returned (.int .i64 (-1)) ∧ Below w.heap.size w w' :=
  find_any h hl (.inl ⟨rfl, hn⟩)
end Go.Proofs.Ytjldocpjoiibjaa

namespace Go.Proofs.Ytjldocpjoiibjaa
open Go.RowKit

theorem infoBuf : (Try.prog.info? 86).map (fun i => (i.zero, i.size, i.bytes)) = some (some (.agg #[.int .i64 0, .int .i64 0, .string ⟨#[]⟩, .bool false, .int .i64 0]), 5, 48) := by kernel_rfl
theorem step_append_own {P : Program} {w : World} {ops : Array Oper} {o : Oper} {a : Act} {K : Act → World → Prop} {Q : Exit → Act → World → Prop} {E : Prop} (hgd : o.guard = none) (s x : Operand) (t : TypeId)
    (ho : o.op = .call { callee := .builtin .append, args := #[s, x], argTypes := #[t, t] })
    (base : Nat) (e : TypeId) (i : TypeInfo) (z : Value) (size bytes : Nat) (ht : P.underlying t = some (.slice e)) (hi : P.info? e = some i) (hz : i.zero = some z)
    (hsize : i.size = size) (hby : i.bytes = bytes) (hzs : z.cells.size = size) (hsz : 0 < size)
    (v : Value) (n : Nat) (xs : List Value) (hs : a.eval s = v) (hown : w.ownsRow base e size v n xs)
    (ad : Addr) (m c : Nat) (news : List Value) (hx : a.eval x = .slice (some ad) m c) (hl : news.length = m * size) (hnews : ∀ j u, news[j]? = some u → w.cell? (ad.add j) = some u) (h1 : ∀ u ∈ news, u.oneCell' = true)
    (h63 : n + m ≤ maxLen) (hbytes : (n + m) * bytes ≤ 140737488355328) (hbase : base ≤ w.heap.size)
    (h : ∀ v' w', w'.ownsRow base e size v' (n + m) (xs ++ news) → w.grownBy w' v.ownBlock → K (a.put o.dst v') w') :
    if Region.wanted o (yielded ops a.tmps) = true then Oper.wp P o a w K Q else E := by
  have hw : Region.wanted o (yielded ops a.tmps) = true := by simp [Region.wanted, hgd]
  rw [if_pos hw]
  exact wp_append_own w s x t ho base e i z size bytes ht hi hz hsize hby hzs hsz v n xs hs hown ad m c news hx hl hnews h1 h63 hbytes hbase fun v' w' h2 h3 _ => h v' w' h2 h3

theorem BufRow.cells {w : World} {g : Nat} {P : List Pb} (h : BufRow w g P) : ∀ (j : Nat) u, (flatB P)[j]? = some u → w.cell? ⟨g, j, none⟩ = some u := fun j u hj => by
  have hjl : j < P.length * 5 := by have := (List.getElem?_eq_some_iff.1 hj).1; rwa [flatB_length] at this
  obtain ⟨b, hb⟩ : ∃ b, P[j / 5]? = some b := ⟨_, List.getElem?_eq_getElem (by omega)⟩
  have h1 := flatB_at P (j / 5) b hb (j % 5) (Nat.mod_lt _ (by omega))
  have he : j / 5 * 5 + j % 5 = j := by omega
  rw [he, hj] at h1
  have h5 : j % 5 < 5 := Nat.mod_lt _ (by omega)
  generalize hm : j % 5 = q at h1 he h5
  match q, h5 with
  | 0, _ => rw [← he, h1]; exact h.c0 _ b hb
  | 1, _ => rw [← he, h1]; exact h.c1 _ b hb
  | 2, _ => rw [← he, h1]; exact h.c2 _ b hb
  | 3, _ => rw [← he, h1]; exact h.c3 _ b hb
  | 4, _ => rw [← he, h1]; exact h.c4 _ b hb
theorem flatB_take (P : List Pb) (i : Nat) : ∀ (j : Nat) u, (flatB (P.take i))[j]? = some u → (flatB P)[j]? = some u := fun j u hj => by
  have h1 : flatB P = flatB (P.take i) ++ flatB (P.drop i) := by rw [← flatB_append, List.take_append_drop]
  have hjl := (List.getElem?_eq_some_iff.1 hj).1
  rw [h1, List.getElem?_append_left hjl]; exact hj
theorem flatB_drop (P : List Pb) (i : Nat) (hi : i ≤ P.length) : ∀ (j : Nat) u, (flatB (P.drop i))[j]? = some u → (flatB P)[i * 5 + j]? = some u := fun j u hj => by
  have h1 : flatB P = flatB (P.take i) ++ flatB (P.drop i) := by rw [← flatB_append, List.take_append_drop]
  have h2 : (flatB (P.take i)).length = i * 5 := by rw [flatB_length, List.length_take]; omega
  rw [h1, List.getElem?_append_right (by omega), h2, show i * 5 + j - i * 5 = j by omega]; exact hj

theorem own_set {w : World} {B n sz : Nat} {v : Value} {xs : List Value} {e : TypeId} {a : Addr} (h : w.ownsRow B e sz v n xs) (ha : a.block < B) (u : Value) : (w.setCell a u).ownsRow B e sz v n xs := by
  refine ⟨h.1, ?_⟩
  rcases h.2 with hn | ⟨g, cap, cur, rfl, h0, hg, r⟩
  · exact .inl hn
  · exact .inr ⟨g, cap, cur, rfl, h0, blk_set_other hg (by omega) u, r⟩
theorem Fr.setCellAt {B : Nat} {a b : World} (h : Fr (fun x => B ≤ x) a b) (x : Addr) (v : Value) : Fr (fun y => B ≤ y ∨ y = x.block) a (b.setCell x v) :=
  (h.mono fun _ _ h => .inl h).setCell x (.inr rfl) v

set_option maxHeartbeats 4000000 in
set_option maxRecDepth 100000 in
theorem without_any {w : World} {v : Value} {P : List Pb} {i : Nat} {room : Int} (h : RefAt w v P) (hip : i < P.length) (hl : P.length ≤ 100000) :
    Calls Try.prog 42 #[refV room v, .int .i64 i] w fun e w' => ∃ v', e = .returned (refV room v') ∧ RefAt w' v' (P.take i ++ P.drop (i + 1)) ∧ Below w.heap.size w w' := by
  obtain ⟨i0, hi, hz0, hz1, hz2⟩ := info_parts infoBuf
  obtain ⟨a, c, rfl, hcap, hrow⟩ := h
  obtain ⟨g, rfl, hg⟩ := hrow (by omega)
  unfold refV
  have hgl := hg.lt
  have HG := Lib.hid hg
  clear hrow hg
  have m1 : (i : Int) ≤ (P.length : Int) := by omega
  have m2 : (0 : Int) ≤ (i : Int) := by omega
  have m0 : (i : Int) ≤ (c : Int) := by omega
  have m4 : (P.length : Int) ≤ (c : Int) := by omega
  have m5 : (0 : Int) ≤ (i : Int) + 1 := by omega
  have m3 : ((i : Int) + 1) ≤ (P.length : Int) := by omega
  have s1 : IntKind.i64.wrap ((i : Int) + 1) = (i : Int) + 1 := IntWalk.i64_in _ (by omega)
  go_enter Try.func42, Try.ntmps42
  go_wp2_with fail
  obtain ⟨w1, hw1⟩ : ∃ w1, w1 = (w.alloc (.cells #[.int .i64 room, .slice (some ⟨g, 0, none⟩) P.length c] 52)).alloc (.cells #[.int .i64 0, .slice none 0 0] 52) := ⟨_, rfl⟩
  have bc : w1.heap[w.heap.size]? = some (.cells #[.int .i64 room, .slice (some ⟨g, 0, none⟩) P.length c] 52 (0, 0)) := by rw [hw1]; exact blk_old (blk_new rfl)
  have br : w1.heap[w.heap.size + 1]? = some (.cells #[.int .i64 0, .slice none 0 0] 52 (0, 0)) := by rw [hw1]; exact blk_new (by simp)
  have hs1 : w1.heap.size = w.heap.size + 2 := by rw [hw1]; simp
  have hf1 : Fr (fun _ => False) w w1 := by rw [hw1]; exact ((Fr.refl _ w).alloc _).alloc _
  rw [← hw1]
  clear hw1
  have hg1 := (HG.out.same (hf1.block g hgl id) hf1.size).cells
  have HF1 := Lib.hid hf1; have HS := Lib.hid hs1; have HG1 := Lib.hid hg1
  have cb1 : w.heap.size < w1.heap.size := by omega
  have rb1 : w.heap.size + 1 < w1.heap.size := by omega
  have hne : w.heap.size ≠ w.heap.size + 1 := by omega
  have hrc : w.heap.size ≤ w.heap.size + 1 := by omega
  clear hf1 hg1 hs1 HG
  have hgl1 : g < w1.heap.size := by omega
  generalize w.heap.size + 1 = rb at br rb1 hne hrc ⊢
  generalize hcb : w.heap.size = cb at bc cb1 hne hrc ⊢
  have k1 : w1.drew.cell? ⟨cb, 1, none⟩ = some (.slice (some ⟨g, 0, none⟩) P.length c) := cell_blk_some bc rfl
  have kA : (w1.drew.alloc (.cells #[] 86)).cell? ⟨cb, 1, none⟩ = some (.slice (some ⟨g, 0, none⟩) P.length c) := cell_blk_some (w := w1.drew.alloc _) (blk_old bc) rfl
  have bcD : w1.drew.heap[cb]? = some (.cells #[.int .i64 room, .slice (some ⟨g, 0, none⟩) P.length c] 52 (0, 0)) := bc
  have brD : w1.drew.heap[rb]? = some (.cells #[.int .i64 0, .slice none 0 0] 52 (0, 0)) := br
  have hgD : ∀ (j : Nat) (u : Value), (flatB P)[j]? = some u → w1.drew.cell? ⟨g, j, none⟩ = some u := HG1.out
  have hszD : w1.drew.heap.size = w1.heap.size := rfl
  generalize hwd : w1.drew = wd at k1 kA bcD brD hgD hszD
  have hown0 : (wd.alloc (.cells #[] 86)).ownsRow wd.heap.size 86 5 (.slice (some ⟨wd.heap.size, 0, none⟩) 0 0) 0 [] :=
    ⟨rfl, .inr ⟨wd.heap.size, 0, #[], rfl, Nat.le_refl _, blk_new rfl, Nat.le_refl _, by decide, rfl, rfl⟩⟩
  have HO := Lib.hid hown0; have BC := Lib.hid bcD; have BR := Lib.hid brD; have GD := Lib.hid hgD; have SZ := Lib.hid hszD
  clear hown0 bcD brD hgD hszD bc br
  have hln1 : (flatB (P.take i)).length = i * 5 := by rw [flatB_length, List.length_take]; omega
  have hln2 : (flatB (P.drop (i + 1))).length = (P.length - (i + 1)) * 5 := by rw [flatB_length, List.length_drop]
  have hc1 : ∀ (j : Nat) u, (flatB (P.take i))[j]? = some u → (wd.alloc (.cells #[] 86)).cell? ((⟨g, 0, none⟩ : Addr).add j) = some u := fun j u hj => by
    have hadd : (⟨g, 0, none⟩ : Addr).add j = ⟨g, j, none⟩ := by unfold Addr.add; split <;> simp_all
    rw [hadd, World.cell?_of_block (w := wd) (a := ⟨g, j, none⟩) (((Fr.refl (fun _ => False) wd).alloc _).block g (by rw [SZ.out]; exact hgl1) id)]
    exact GD.out j u (flatB_take P i j u hj)
  have HL1 := Lib.hid hln1; have HL2 := Lib.hid hln2; have HC1 := Lib.hid hc1
  clear hln1 hln2 hc1
  obtain ⟨ad, hq, hc2⟩ : ∃ ad : Addr, (((c = i + 1) = True ∧ ad = ⟨g, 0, none⟩) ∨ ((c = i + 1) = False ∧ ad = ⟨g, (i + 1) * 5, none⟩)) ∧ ∀ w2, Fr (fun _ => False) wd w2 → ∀ (j : Nat) u, (flatB (P.drop (i + 1)))[j]? = some u → w2.cell? (ad.add j) = some u := by
    by_cases hci : c = i + 1
    · refine ⟨_, .inl ⟨eq_true hci, rfl⟩, fun w2 hf j u hj => ?_⟩
      have := (List.getElem?_eq_some_iff.1 hj).1
      rw [HL2.out] at this
      omega
    · refine ⟨_, .inr ⟨eq_false hci, rfl⟩, fun w2 hf j u hj => ?_⟩
      have hadd : (⟨g, (i + 1) * 5, none⟩ : Addr).add j = ⟨g, (i + 1) * 5 + j, none⟩ := by unfold Addr.add; split <;> simp_all
      rw [hadd, World.cell?_of_block (w := wd) (a := ⟨g, (i + 1) * 5 + j, none⟩) (hf.block g (by rw [SZ.out]; exact hgl1) id)]
      exact GD.out _ u (flatB_drop P (i + 1) (by omega) j u hj)
  have HC2 := Lib.hid hc2
  clear hc2
  rcases hq with ⟨q, rfl⟩ | ⟨q, rfl⟩
  all_goals
    first
      | go_region_law
        (first
          | (refine step_append_own rfl (.tmp 5) (.tmp 9) 50 rfl wd.heap.size 86 i0 _ 5 48 Try.underlying50 hi hz0 hz1 hz2 rfl (by decide) _ _ _ rfl HO.out ⟨g, 0, none⟩ i c (flatB (P.take i)) rfl HL1.out HC1.out (flatB_one _) (by unfold maxLen; omega) (by omega) (by simp) ?_
             intro v1 w2 hown1 hgr1
             have f2 := fr_grown (Fr.refl (fun _ => False) wd) hgr1 rfl
             have k2 : w2.cell? ⟨cb, 1, none⟩ = some (.slice (some ⟨g, 0, none⟩) P.length c) := cell_blk_some ((f2.block cb (by rw [SZ.out]; exact cb1) id).trans BC.out) rfl
             have O2 := Lib.hid hown1; have F2 := Lib.hid f2
             clear hown1 hgr1 f2
             dsimp only)
          | (refine step_append_own rfl (.tmp 10) (.tmp 15) 50 rfl wd.heap.size 86 i0 _ 5 48 Try.underlying50 hi hz0 hz1 hz2 rfl (by decide) _ _ _ rfl O2.out _ _ _ (flatB (P.drop (i + 1))) rfl HL2.out (HC2.out _ F2.out) (flatB_one _) (by unfold maxLen; omega) (by omega) F2.out.size ?_
             intro v2 w3 hown2 hgr2
             obtain ⟨a2, c2, hsh⟩ := own_shape hown2
             subst hsh
             have hlt2 := O2.out.lt
             have f3 : Fr (fun x => wd.heap.size ≤ x) wd w3 := (F2.out.mono fun _ _ h => h.elim).trans ⟨hgr2.os, hgr2.tape, hgr2.output, hgr2.size, fun y hy hn => hgr2.block y hy fun e => hn (hlt2 y e.symm).1⟩
             have bc3 := (f3.block cb (by rw [SZ.out]; exact cb1) (by rw [SZ.out]; omega)).trans BC.out
             have br3 := (f3.block rb (by rw [SZ.out]; exact rb1) (by rw [SZ.out]; omega)).trans BR.out
             have fz := free_blk (i := 1) bc3
             have cz : w3.cell? ⟨cb, 1, none⟩ = some (.slice (some ⟨g, 0, none⟩) P.length c) := cell_blk_some bc3 rfl
             have O3 := Lib.hid hown2; have F3 := Lib.hid f3; have BC3 := Lib.hid bc3; have BR3 := Lib.hid br3
             clear hown2 hgr2 hlt2 f3 bc3 br3
             dsimp only))
      | fail
  all_goals
    clear k1 kA k2 q HC2 HC1 HL1 HL2 HO O2 F2 cz fz
    have hn5 : 0 + i + (P.length - (i + 1)) = i + (P.length - (i + 1)) := by omega
    have ho := O3.out
    rw [hn5, List.nil_append, ← flatB_append] at ho
    have bc4 := blk_set (i := 1) BC3.out (.slice a2 (i + (P.length - (i + 1))) c2)
    have br4 := blk_set_other (a := ⟨cb, 1, none⟩) BR3.out (Ne.symm hne) (.slice a2 (i + (P.length - (i + 1))) c2)
    have hown4 := own_set ho (a := ⟨cb, 1, none⟩) (by rw [SZ.out]; exact cb1) (.slice a2 (i + (P.length - (i + 1))) c2)
    have f4 := F3.out.setCellAt ⟨cb, 1, none⟩ (.slice a2 (i + (P.length - (i + 1))) c2)
    generalize w3.setCell ⟨cb, 1, none⟩ (.slice a2 (i + (P.length - (i + 1))) c2) = w4 at bc4 br4 hown4 f4 ⊢
    have x0 : w4.cell? ⟨cb, 0, none⟩ = some (.int .i64 room) := cell_blk_some bc4 rfl
    have x1 : w4.cell? ⟨cb, 1, none⟩ = some (.slice a2 (i + (P.length - (i + 1))) c2) := cell_blk_some bc4 rfl
    have y0 : w4.cell? ⟨rb, 0, none⟩ = some (.int .i64 0) := cell_blk_some br4 rfl
    have y1 : w4.cell? ⟨rb, 1, none⟩ = some (.slice none 0 0) := cell_blk_some br4 rfl
    have z0 := free_blk (i := 0) br4
    have z1 := free_blk (i := 1) br4
    have BR4 := Lib.hid br4; have O4 := Lib.hid hown4; have F4 := Lib.hid f4
    clear bc4 br4 hown4 f4 O3 F3 BC3 BR3 ho hn5
    go_wp2_with fail
    have br6 := blk_set (i := 1) (blk_set (i := 0) BR4.out (.int .i64 room)) (.slice a2 (i + (P.length - (i + 1))) c2)
    refine bodyPost_ret (results_cell_row rfl _ _ rb _ _ _ _ rfl br6 Try.underlying52 rfl (by kernel_rfl)) rfl ?_
    have ho6 := own_set (own_set O4.out (a := ⟨rb, 0, none⟩) (by rw [SZ.out]; exact rb1) (.int .i64 room)) (a := ⟨rb, 1, none⟩) (by rw [SZ.out]; exact rb1) (.slice a2 (i + (P.length - (i + 1))) c2)
    refine ⟨_, rfl, (buf_own ho6).1, ?_⟩
    have hwz : cb ≤ wd.heap.size := by rw [SZ.out]; omega
    have hfa : Fr (fun x => cb ≤ x) w wd := by rw [← hwd]; exact (HF1.out.mono fun _ _ h => h.elim).drew
    have hfb : Fr (fun x => cb ≤ x) wd w4 := F4.out.mono fun x _ hx => by
      rcases hx with hx | hx
      · omega
      · have : x = cb := hx; omega
    have hfc := ((hfa.trans hfb).setCell ⟨rb, 0, none⟩ hrc (.int .i64 room)).setCell ⟨rb, 1, none⟩ hrc (.slice a2 (i + (P.length - (i + 1))) c2)
    exact hfc.toBelow (by omega) fun _ h => h
end Go.Proofs.Ytjldocpjoiibjaa
