/- Walk of marllaw09.play, kind 1: Put; and of any kind. -/
import Derived.Test.YtjldocpjoiibjaaC37
import Derived.Test.YtjldocpjoiibjaaC28
namespace Go.Proofs.Ytjldocpjoiibjaa
open Go.RowKit

/-- What is put in: a row of the call's own. -/
structure PutIn (w w2 : World) (F : Nat → Prop) (kb : Nat) (o : Opr) (v vin : Value) (n : Nat) : Prop where
  own : w2.ownsRow w.heap.size 5 1 vin n o.bytes
  fr : Fr (fun _ => False) w w2
  box : OpBox w2 kb o v
  len : o.data.length ≤ 1000
  num : o.bytes.length = n
theorem own_data {w w2 : World} {F : Nat → Prop} {vin : Value} {n : Nat} {l : List Value} (h : w2.ownsRow w.heap.size 5 1 vin n l) (h1 : ∀ u ∈ l, u.oneCell' = true) (hF : ∀ x, F x → x < w.heap.size) :
    (∃ a c, vin = .slice a n c) ∧ (n = 64 → ∃ g oo c, vin = .slice (some ⟨g, oo, none⟩) 64 c ∧ DataAt w2 F g oo l) := by
  refine ⟨own_shape h, fun hn => ?_⟩
  subst hn
  obtain ⟨g, c, rfl, h2, h3, h4⟩ := bytes_own h
  exact ⟨g, 0, c, rfl, by have := h.1; omega, h1, h4, fun hx => by have := hF g hx; omega, h3⟩
theorem fr_grown {w0 w w2 : World} {t : TypeId} {a : Option Nat} (hf : Fr (fun _ => False) w0 w) (hg : (w.alloc (.cells #[] t)).grownBy w2 a) (ha : a = some w.heap.size) : Fr (fun _ => False) w0 w2 := by
  subst ha
  refine hf.trans ⟨hg.os, hg.tape, hg.output, Nat.le_trans (by simp) hg.size, fun y hy _ => ?_⟩
  rw [hg.block y (by simp; omega) (fun e => by injection e; omega)]
  show (w.heap.push _)[_]? = _
  rw [Array.getElem?_push, if_neg (by omega)]
theorem opr_int (o : Opr) : ∀ u ∈ o.bytes, ∃ z, u = .int .u8 z := by
  unfold Opr.bytes pat
  split
  · intro u hu; obtain ⟨x, _, rfl⟩ := List.mem_map.1 hu; exact ⟨x, rfl⟩
  · intro u hu; obtain ⟨x, _, rfl⟩ := List.mem_map.1 hu; exact ⟨_, rfl⟩
theorem opr_len (o : Opr) (h : o.data.length ≤ 1000) : o.bytes.length ≤ 1000 := by
  unfold Opr.bytes
  split
  · rw [List.length_map]; exact h
  · rw [pat_len]; omega
theorem blk_of_cell {w : World} {g i : Nat} {u : Value} (h : w.cell? ⟨g, i, none⟩ = some u) : g < w.heap.size := by
  unfold World.cell? at h
  cases hg : w.heap[g]? with
  | none => simp [hg] at h
  | some ob => exact blk_lt hg
/-- The row's block, all of bytes; or the row is empty. -/
def ByteRow (w : World) (g n : Nat) (a : Option Addr) : Prop := n = 0 ∨ (a = some ⟨g, 0, none⟩ ∧ ∃ cur, w.heap[g]? = some (.cells cur 5 (0, 0)) ∧ ∀ j, j < n → ∃ z, cur[j]? = some (.int .u8 z))
theorem byteRow_own {w0 w : World} {B n c : Nat} {a : Option Addr} {l : List Value} (h : w.ownsRow B 5 1 (.slice a n c) n l) (hl : ∀ u ∈ l, ∃ z, u = .int .u8 z) (h0 : w0.heap.size ≤ B) (hlt : w0.heap.size < w.heap.size) :
    ∃ g, w0.heap.size ≤ g ∧ g < w.heap.size ∧ ByteRow w g n a := by
  rcases h.2 with ⟨_, hn⟩ | ⟨g, cap, cur, he, hb, hg, hc, _, hs, ht⟩
  · exact ⟨w0.heap.size, Nat.le_refl _, hlt, .inl hn⟩
  · obtain ⟨h1, -, -⟩ := Value.slice.inj he
    refine ⟨g, by omega, blk_lt hg, .inr ⟨h1, cur, hg, fun j hj => ?_⟩⟩
    have hln := h.1
    obtain ⟨u, hu⟩ : ∃ u, l[j]? = some u := ⟨_, List.getElem?_eq_getElem (by omega)⟩
    obtain ⟨z, rfl⟩ := hl u (List.mem_of_getElem? hu)
    rw [← ht, List.getElem?_take, if_pos (by omega), Array.getElem?_toList] at hu
    exact ⟨z, hu⟩
theorem opr_one (o : Opr) : ∀ u ∈ o.bytes, u.oneCell' = true := by
  unfold Opr.bytes
  split
  · exact bys_one _
  · exact pat_one _

section
variable {w : World} {cb m : Nat} {s : Int} {F : Nat → Prop} {L : List Bf} {Q : List Bf} {o : Opr} {v : Value}
set_option maxHeartbeats 4000000 in
set_option maxRecDepth 100000 in
theorem play_put {B : Nat} (h : CAt w cb m s Q F) (hL : Lru Q s L) (hs0 : 0 ≤ s) (hs1 : s ≤ 4000000000000000000) (hl : L.length ≤ m) (hm : m ≤ 10000) (ho : o.kind = 1)
    (hv : BysAt B w v o.data) (hB : B ≤ w.heap.size) (hy : o.data.length ≤ 1000) :
    Calls Try.prog 18 #[.pointer (some ⟨cb, 0, none⟩), opV o v] w (PlayPost cb m s F L o w) := by
  obtain ⟨i0, hi, hz0, hz1, hz2⟩ := info_parts infoByte
  obtain ⟨kind, ⟨k1, k2⟩, ys, raw, dirty⟩ := o
  obtain rfl : kind = 1 := ho
  have hf1 : Fr (fun _ => False) w (w.alloc (.cells #[.int .i64 1, .int .i64 k1, .int .i64 k2, v, .bool raw, .bool dirty] 45)) := (Fr.refl _ w).alloc _
  have hbx := opBox_new w ⟨1, (k1, k2), ys, raw, dirty⟩ v
  unfold opCells at hbx
  obtain ⟨a0, c0, rfl⟩ := hv.shape
  have HV := Lib.hid hv; have HC := Lib.hid h; have HL := Lib.hid hL; have HF1 := Lib.hid hf1; have HBX := Lib.hid hbx
  have hyl : ys.length ≤ 1000 := hy
  clear hv h hL hf1 hbx hy
  unfold opV
  cases raw
  focus
    go_enter Try.func18, Try.ntmps18
    go_wp2_with fail
    refine (bytes_of (HV.out.fr HF1.out (fun _ h => h.elim) hB) (Nat.le_trans hB HF1.out.size) (by omega)).mono ?_
    rintro e wA ⟨g, rfl, hg1, hg2, hbA, hdA⟩
    have fA := Fr.below (S := fun _ => False) hbA
    have hown0 : (wA.alloc (.cells #[] 5)).ownsRow wA.heap.size 5 1 (.slice (some ⟨wA.heap.size, 0, none⟩) 0 0) 0 [] :=
      ⟨rfl, .inr ⟨wA.heap.size, 0, #[], rfl, Nat.le_refl _, blk_new rfl, Nat.le_refl _, by decide, rfl, rfl⟩⟩
    have hcc : ∀ j u, (pat ys)[j]? = some u → (wA.alloc (.cells #[] 5)).cell? ((⟨g, 0, none⟩ : Addr).add j) = some u := fun j u hj => by
      have hadd : (⟨g, 0, none⟩ : Addr).add j = ⟨g, 0 + j, none⟩ := by unfold Addr.add; split <;> simp_all
      rw [hadd]
      exact row_same hdA (((Fr.refl (fun _ => False) wA).alloc _).block g hg2 id) j u hj
    have HO := Lib.hid hown0; have HCC := Lib.hid hcc; have FA := Lib.hid fA
    clear hown0 hcc fA hg1 hg2 hbA hdA
    go_wp2_with (at_builtin; refine wpList_append_own _ rfl _ _ 31 rfl wA.heap.size 5 i0 (.int .u8 0) 1 1 Try.underlying31 hi hz0 hz1 hz2 rfl (by decide) _ _ _ rfl HO.out ⟨g, 0, none⟩ 64 64 (pat ys) rfl (by rw [pat_len]) HCC.out (pat_one ys) ?c3 ?c4 ?c5 ?_)
    case c3 => unfold maxLen; omega
    case c4 => omega
    case c5 => simp
    intro vin w2 hown2 hgr2 _
    have f2 := fr_grown FA.out hgr2 rfl
    have HP := Lib.hid (show ∃ n, PutIn w w2 F w.heap.size ⟨1, (k1, k2), ys, false, dirty⟩ (.slice a0 ys.length c0) vin n from
      ⟨64, own_less hown2 (Nat.le_trans HF1.out.size FA.out.size), HF1.out.trans f2, HBX.out.same (f2.block w.heap.size (by simp) id), hyl, pat_len ys⟩)
    clear hown2 hgr2 f2 HO HCC FA
    obtain ⟨_, hpx⟩ := HP.out
    obtain ⟨e0, e1, e2, e3, e4, e5⟩ := hpx.box
    clear hpx
    clear HBX HF1
    go_wp2_with fail
    have hsz2 : w.heap.size < w2.heap.size := blk_of_cell e0
    clear e0 e1 e2 e3 e4 e5
  rotate_left
  focus
    have hcc := (HV.out.fr (HF1.out.trans ((Fr.refl (fun _ => False) _).alloc (.cells #[] 5))) (fun _ h => h.elim) hB).news
    rcases hcc with ⟨rfl, rfl⟩ | ⟨ad, rfl, hnews⟩
    focus
      simp only [List.length_nil] at HV HF1 HBX ⊢
      obtain ⟨w1, hw1⟩ : ∃ w1, w1 = w.alloc (.cells #[.int .i64 1, .int .i64 k1, .int .i64 k2, .slice none 0 c0, .bool true, .bool dirty] 45) := ⟨_, rfl⟩
      have hs1 : w1.heap.size = w.heap.size + 1 := by rw [hw1]; simp
      rw [← hw1] at HF1 HBX
      have hP : ∃ n, PutIn w (w1.alloc (.cells #[] 5)) F w.heap.size ⟨1, (k1, k2), [], true, dirty⟩ (.slice none 0 c0) (.slice (some ⟨w1.heap.size, 0, none⟩) 0 0) n :=
        ⟨0, own_less (B := w1.heap.size) ⟨rfl, .inr ⟨w1.heap.size, 0, #[], rfl, Nat.le_refl _, blk_new rfl, Nat.le_refl _, by decide, rfl, rfl⟩⟩ HF1.out.size, HF1.out.trans ((Fr.refl _ w1).alloc _), HBX.out.same (((Fr.refl (fun _ => False) w1).alloc _).block w.heap.size (by omega) id), hyl, rfl⟩
      have HP := Lib.hid hP
      have hsz2 : w.heap.size < (w1.alloc (.cells #[] 5)).heap.size := by simp; omega
      rw [hs1, hw1] at HP
      rw [hw1] at hsz2
      clear hP HBX HF1 hs1 hw1
      go_enter Try.func18, Try.ntmps18
      go_wp2_with fail
      generalize Value.slice (some ⟨w.heap.size + 1, 0, none⟩) 0 0 = vin at HP ⊢
      generalize World.alloc _ (.cells #[] 5) = w2 at HP hsz2 ⊢
    rotate_left
    focus
      obtain ⟨w1, hw1⟩ : ∃ w1, w1 = w.alloc (.cells #[.int .i64 1, .int .i64 k1, .int .i64 k2, .slice (some ad) ys.length c0, .bool true, .bool dirty] 45) := ⟨_, rfl⟩
      have hs1 : w1.heap.size = w.heap.size + 1 := by rw [hw1]; simp
      rw [← hw1] at HF1 HBX hnews
      have hown0 : (w1.alloc (.cells #[] 5)).ownsRow w1.heap.size 5 1 (.slice (some ⟨w1.heap.size, 0, none⟩) 0 0) 0 [] :=
        ⟨rfl, .inr ⟨w1.heap.size, 0, #[], rfl, Nat.le_refl _, blk_new rfl, Nat.le_refl _, by decide, rfl, rfl⟩⟩
      rw [hs1, hw1] at hown0
      rw [hw1] at hnews HF1 HBX
      have HO := Lib.hid hown0; have HCC := Lib.hid hnews; have HS1 := Lib.hid hs1
      have hlm : (ys.map (Value.int .u8)).length = ys.length * 1 := by rw [List.length_map, Nat.mul_one]
      clear hown0 hnews hs1 hw1
      go_enter Try.func18, Try.ntmps18
      go_wp2_with (at_builtin; refine wpList_append_own _ rfl _ _ 31 rfl (w.heap.size + 1) 5 i0 (.int .u8 0) 1 1 Try.underlying31 hi hz0 hz1 hz2 rfl (by decide) _ _ _ rfl HO.out ad ys.length c0 (ys.map (.int .u8)) rfl hlm HCC.out (bys_one ys) ?c3 ?c4 ?c5 ?_)
      case c3 => unfold maxLen; omega
      case c4 => omega
      intro vin w2 hown2 hgr2 _
      have hgr3 : ((w.alloc (.cells #[.int .i64 1, .int .i64 k1, .int .i64 k2, .slice (some ad) ys.length c0, .bool true, .bool dirty] 45)).alloc (.cells #[] 5)).grownBy w2 (some (w.heap.size + 1)) := hgr2
      have f2 := fr_grown (Fr.refl (fun _ => False) _) hgr3 (by simp)
      have HP := Lib.hid (show ∃ n, PutIn w w2 F w.heap.size ⟨1, (k1, k2), ys, true, dirty⟩ (.slice (some ad) ys.length c0) vin n from
        ⟨ys.length, own_less (B := w.heap.size + 1) (show w2.ownsRow (w.heap.size + 1) 5 1 vin ys.length (ys.map (Value.int .u8)) by simpa using hown2) (by omega), HF1.out.trans f2, HBX.out.same (f2.block w.heap.size (by simp) id), hyl, by show (ys.map _).length = _; simp⟩)
      clear hown2 hgr2 hgr3 f2 HO HCC
      obtain ⟨_, hpx⟩ := HP.out
      obtain ⟨e0, e1, e2, e3, e4, e5⟩ := hpx.box
      clear hpx
      clear HBX HF1
      go_wp2_with fail
      have hsz2 : w.heap.size < w2.heap.size := blk_of_cell e0
      clear e0 e1 e2 e3 e4 e5
  all_goals
    obtain ⟨n, hp1, hp2, -, hlen0, hnum⟩ := HP.out
    have hFl : ∀ x, F x → x < w.heap.size := HC.out.lt
    obtain ⟨hs1, hs2⟩ := own_data (F := F) hp1 (opr_one _) hFl
    obtain ⟨ai, ci, rfl⟩ := hs1
    obtain ⟨g, hg0, hg1, hrow⟩ := byteRow_own hp1 (opr_int _) (Nat.le_refl _) hsz2
    have hlen := opr_len _ hlen0
    rw [hnum] at hlen
    have hput := putA (HC.out.frame hp2 fun _ _ h => h) HL.out hs0 hs1 hl hm rfl ⟨ai, ci, by rw [hnum]⟩ (by rw [hnum]; exact hs2)
    refine hput.mono ?_
    rintro e w3 ⟨er, rfl, ha⟩
    have hng : ¬ F g := fun hx => by have := hFl g hx; omega
    have hb3 : w3.heap[g]? = w2.heap[g]? := by
      obtain ⟨_, _, _, _, _, _, _, _, hfr, _⟩ := ha
      exact hfr.block g hg1 hng
    have hrow3 : ByteRow w3 g n ai := hrow.imp id fun ⟨h1, cur, h2, h3⟩ => ⟨h1, cur, by rw [hb3]; exact h2, h3⟩
    have HA := Lib.hid ha; have HR := Lib.hid hrow3; have HP2 := Lib.hid hp2
    clear ha hrow3 hb3 hp1 hp2 hrow hs2 hput HP HC HL hnum hlen0
    go_wp2_with fail
    go_loopw [37] (fun i wr => ∃ k : Nat, k ≤ n ∧ i = .int .i64 k ∧ Fr (fun x => x = g) w3 wr ∧ ByteRow wr g n ai) (fun i _ => n - (intOf i).toNat)
    case atStart => exact ⟨0, Nat.zero_le _, rfl, Fr.refl _ _, HR.out⟩
    case round =>
      obtain ⟨k, hk, rfl, hfr, hr⟩ := hrel
      have HFR := Lib.hid hfr
      clear hfr HR
      by_cases hlt : k < n
      · rcases hr with h0 | ⟨rfl, cur, hb, hz⟩
        · omega
        · obtain ⟨z, hz1⟩ := hz k hlt
          have c1 := cell_blk_some hb hz1
          have f1 := free_blk (i := k) hb
          have hnew := blk_set (i := k) hb (.int .u8 (IntKind.u8.wrap (z + 1)))
          have hks : k < cur.size := (Array.getElem?_eq_some_iff.1 hz1).1
          have hz2 : ∀ j, j < n → ∃ z', (cur.setIfInBounds k (.int .u8 (IntKind.u8.wrap (z + 1))))[j]? = some (.int .u8 z') := fun j hj => by
            by_cases hkj : k = j
            · subst hkj
              exact ⟨_, by rw [Array.getElem?_setIfInBounds, if_pos rfl, if_pos hks]⟩
            · rw [Array.getElem?_setIfInBounds, if_neg hkj]
              exact hz j hj
          have m1 : (k : Int) < (n : Int) := by omega
          have m2 : (0 : Int) ≤ (k : Int) := by omega
          have HN := Lib.hid hnew; have HZ := Lib.hid hz2
          clear hb hz hz1 hnew hz2 hks
          go_wp2_with fail
          go_roundw
          case rel => exact ⟨k + 1, by omega, by go_num, HFR.out.setCell ⟨g, k, none⟩ rfl _, .inr ⟨rfl, _, HN.out, HZ.out⟩⟩
          case measure => simp [intOf]; omega
      · obtain rfl : k = n := by omega
        clear hr
        go_wp2_with fail
        go_ret3
        exact ⟨er, _, none, rfl, HA.out.behind HP2.out HFR.out hng hg0 hg1, rfl⟩

theorem play_any {B : Nat} (h : CAt w cb m s Q F) (hL : Lru Q s L) (hs0 : 0 ≤ s) (hs1 : s ≤ 4000000000000000000) (hl : L.length ≤ m) (hm : m ≤ 10000) (hp : ∀ b ∈ L, 0 ≤ b.pins ∧ b.pins ≤ 1000000)
    (hv : BysAt B w v o.data) (hB : B ≤ w.heap.size) (hy : o.data.length ≤ 1000) :
    Calls Try.prog 18 #[.pointer (some ⟨cb, 0, none⟩), opV o v] w (PlayPost cb m s F L o w) := by
  by_cases h1 : o.kind = 1
  · exact play_put h hL hs0 hs1 hl hm h1 hv hB hy
  by_cases h2 : o.kind = 2
  · exact play_get h hL hs0 hs1 (by omega) h2
  by_cases h3 : o.kind = 3
  · exact play_clean h hL h3
  by_cases h4 : o.kind = 4
  · exact play_pin h hL hp h4
  by_cases h5 : o.kind = 5
  · exact play_unpin h hL hp h5
  by_cases h6 : o.kind = 6
  · exact play_drop h hL hp (by omega) h6
  exact play_other h hL h1 h2 h3 h4 h5 h6
end
end Go.Proofs.Ytjldocpjoiibjaa
