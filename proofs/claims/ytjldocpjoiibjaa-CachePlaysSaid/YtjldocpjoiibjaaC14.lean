/- Walk of the cache's Put where the key is there. -/
import Derived.Test.YtjldocpjoiibjaaC13
import Derived.Deep.MidRow
namespace Go.Proofs.Ytjldocpjoiibjaa
open Go.RowKit

def Bf.put (b : Bf) (l : List Value) (d : Bool) : Bf := { b with data := l, dirty := b.dirty || d }
def Bf.setData (b : Bf) (l : List Value) : Bf := { b with data := l }
def setRow (c : Array Value) : Nat → List Value → Array Value
  | _, [] => c
  | o, v :: r => setRow (c.setIfInBounds o v) (o + 1) r
theorem blk_setCells {b : Nat} {t : TypeId} {z : Nat × Nat} : ∀ (vs : List Value) (o : Nat) (w : World) (c : Array Value), w.heap[b]? = some (.cells c t z) → (w.setCells b o vs).heap[b]? = some (.cells (setRow c o vs) t z)
  | [], _, _, _, h => h
  | v :: r, o, _, _, h => blk_setCells r (o + 1) _ _ (blk_set h v)
theorem setRow_get : ∀ (vs : List Value) (o : Nat) (c : Array Value) (k : Nat), o + vs.length ≤ c.size → (setRow c o vs)[k]? = if o ≤ k ∧ k < o + vs.length then vs[k - o]? else c[k]?
  | [], o, c, k, _ => by simp [setRow]; intro h1 h2; omega
  | v :: r, o, c, k, h => by
    have hs : (c.setIfInBounds o v).size = c.size := by simp
    simp only [List.length_cons] at h
    rw [setRow, setRow_get r (o + 1) _ k (by omega), Array.getElem?_setIfInBounds, List.length_cons]
    by_cases h1 : o = k
    · subst h1
      rw [if_neg (by omega), if_pos rfl, if_pos (by omega), if_pos (by omega), Nat.sub_self]; rfl
    · rw [if_neg h1]
      by_cases h2 : o + 1 ≤ k ∧ k < o + 1 + r.length
      · rw [if_pos h2, if_pos (by omega), show k - o = (k - (o + 1)) + 1 by omega, List.getElem?_cons_succ]
      · rw [if_neg h2, if_neg (by omega)]
theorem Bf.dataCells {b : Bf} (h : b.ok) (i : Int) {l : List Value} (hl : l.length = 64) : setRow (b.cells i) 2 l = (b.setData l).cells i := by
  apply Array.ext_getElem?
  intro k
  rw [setRow_get l 2 _ k (by rw [Bf.size h, hl]; decide), hl]
  have hd : b.data.length = 64 := h
  unfold Bf.cells Bf.setData
  rw [List.getElem?_toArray, List.getElem?_toArray]
  match k with
  | 0 => rfl
  | 1 => rfl
  | k + 2 =>
    rw [List.getElem?_cons_succ, List.getElem?_cons_succ, List.getElem?_cons_succ, List.getElem?_cons_succ]
    by_cases hk : k < 64
    · rw [if_pos (by omega), List.getElem?_append_left (by show k < l.length; omega), show k + 2 - 2 = k by omega]
    · rw [if_neg (by omega), List.getElem?_append_right (by omega), List.getElem?_append_right (by show l.length ≤ k; omega), hd]
      show _ = _
      rw [hl]
theorem Fr.setCells {S : Nat → Prop} {a : World} : ∀ (vs : List Value) (o : Nat) (b : World) (x : Nat), Fr S a b → S x → Fr S a (b.setCells x o vs)
  | [], _, _, _, h, _ => h
  | v :: r, o, _, x, h, hs => Fr.setCells r (o + 1) _ x (h.setCell ⟨x, o, none⟩ hs v) hs
theorem info64 : (Try.prog.info? 72).map (·.size) = some 64 := by kernel_rfl

/-- A block's bytes, as they are handed in. -/
structure DataAt (w : World) (F : Nat → Prop) (g o : Nat) (l : List Value) : Prop where
  len : l.length = 64
  one : ∀ u ∈ l, u.oneCell' = true
  cell : ∀ j u, l[j]? = some u → w.cell? ⟨g, o + j, none⟩ = some u
  off : ¬ F g
  lt : g < w.heap.size
theorem DataAt.frame {w w' : World} {F : Nat → Prop} {g o : Nat} {l : List Value} (h : DataAt w F g o l) (hf : Fr F w w') : w'.rangeAt g o l := fun j u hj => by
  rw [World.cell?_of_block (w := w) (a := ⟨g, o + j, none⟩) (hf.block g h.lt h.off)]; exact h.cell j u hj

set_option maxHeartbeats 4000000 in
set_option maxRecDepth 100000 in
theorem put_old {w : World} {cb : Nat} {room stamp : Int} {Q : List Bf} {F : Nat → Prop} {i : Nat} {b : Bf} {g o c : Nat} {l : List Value} {d : Bool} (h : CAt w cb room stamp Q F) (hi : Q[i]? = some b) (hd : DataAt w F g o l)
    (hs0 : 0 ≤ stamp) (hs1 : stamp ≤ 4000000000000000000) (hl : Q.length ≤ 900000) :
    Calls Try.prog 10 #[.pointer (some ⟨cb, 0, none⟩), keyV b.key, .slice (some ⟨g, o, none⟩) 64 c, .bool d] w fun e w' => e = .returned (.int .i64 0) ∧ CAt w' cb room (stamp + 1) (useQ (Q.set i (b.put l d)) i (stamp + 1)) F ∧ Fr F w w' := by
  obtain ⟨mb, v, E, h⟩ := h
  obtain ⟨w1, hw1⟩ : ∃ w1, w.alloc (.cells #[.int .i64 b.k1, .int .i64 b.k2] 29) = w1 := ⟨_, rfl⟩
  have hf1 : Fr (fun _ => False) w w1 := by rw [← hw1]; exact (Fr.refl _ w).alloc _
  have h1 := h.frame hf1 (fun _ _ hx => hx)
  have hbx : w1.heap[w.heap.size]? = some (.cells #[.int .i64 b.k1, .int .i64 b.k2] 29 (0, 0)) := by rw [← hw1]; exact blk_new rfl
  have k0 := cell_blk_some hbx (i := 0) rfl
  have k1 := cell_blk_some hbx (i := 1) rfl
  have c1 : w1.cell? ⟨cb, 1, none⟩ = some (.map (some mb)) := cell_blk_some h1.hq.blk rfl
  have lk : ∀ n, (Instr.lookup 65 (.map (some mb)) (.agg #[.int .i64 b.k1, .int .i64 b.k2]) false).run Try.prog (w1.drewN n) = .ok (.pointer (some ⟨b.blk, 0, none⟩)) (w1.drewN n) := fun n =>
    (h1.frame (Fr.of_drewN (S := fun _ => False) rfl) (fun _ _ hx => hx)).look (List.mem_of_getElem? hi)
  unfold keyV Bf.key
  have H := Lib.hid h1; have HF1 := Lib.hid hf1; have HI := Lib.hid hi; have HD := Lib.hid hd
  clear h h1 hf1 hbx hi hd
  go_enter Try.func10, Try.ntmps10
  go_wp2_with fail
  go_quiet (fail)
  have hf2 : Fr (fun _ => False) w1 (w1.drewN nq) := Fr.of_drewN rfl
  have hz := H.out.frame hf2 (fun _ _ hx => hx)
  have hfz : Fr F w (w1.drewN nq) := (HF1.out.trans hf2).mono fun _ _ hx => hx.elim
  clear lk k0 k1 c1 hw1 hf2 H HF1
  generalize w1.drewN nq = wz at hz hfz ⊢
  have hb := (hz.hq.buf i b HI.out)
  obtain ⟨hbok, hbn⟩ := hb
  have hrg := HD.out.frame hfz
  have hthere : wz.there b.blk 2 64 := fun j hj => by
    have hc := cell_blk (i := 2 + j) hbn
    refine ⟨?_, free_blk hbn⟩
    rw [hc, Array.getElem?_eq_getElem (by rw [Bf.size hbok]; omega)]; rfl
  have HZ := Lib.hid hz; have HFZ := Lib.hid hfz; have HBN := Lib.hid hbn; have HRG := Lib.hid hrg; have HTH := Lib.hid hthere
  have h64 : l.length = 64 := HD.out.len
  clear hz hfz hbn hrg hthere
  have aa : ∀ w : World, (Instr.arrayAt 72 (.slice (some ⟨g, o, none⟩) 64 c)).run Try.prog w = .ok (.pointer (some ⟨g, o, none⟩)) w := fun w => by
    simp [Instr.arrayAt, run_underlying Try.underlying72]
  obtain ⟨wx, hwx⟩ : ∃ wx, wz.setCells b.blk 2 l = wx := ⟨_, rfl⟩
  have hxn : wx.heap[b.blk]? = some (.cells ((b.setData l).cells i) 74 (0, 0)) := by
    rw [← hwx, ← Bf.dataCells hbok i h64]; exact blk_setCells l 2 wz _ HBN.out
  have hok2 : (b.setData l).ok := h64
  have c66 := cell_blk_some hxn (Bf.at_dirty hok2 i)
  have f66 := free_blk (i := 66) hxn
  obtain ⟨wy, hwy⟩ : ∃ wy, wx.setCell ⟨b.blk, 66, none⟩ (.bool (b.dirty || d)) = wy := ⟨_, rfl⟩
  have hyn : wy.heap[b.blk]? = some (.cells ((b.put l d).cells i) 74 (0, 0)) := by
    have := blk_set (i := 66) hxn (.bool (b.dirty || d))
    rw [Bf.dirtyCells hok2] at this
    rw [← hwy]; exact this
  have hfy : Fr (fun x => x = b.blk) wz wy := by
    rw [← hwy, ← hwx]
    exact (Fr.setCells (S := fun x => x = b.blk) l 2 _ _ (Fr.refl _ wz) rfl).setCell ⟨b.blk, 66, none⟩ rfl _
  have hy := HZ.out.upd HI.out (b' := b.put l d) rfl rfl h64 HD.out.one hfy hyn
  have hus := use_any hy (i := i) (b := b.put l d) (by rw [List.getElem?_set, if_pos rfl, if_pos (List.getElem?_eq_some_iff.1 HI.out).1]) hs0 hs1 (by rw [List.length_set]; exact hl)
  unfold Bf.ptr at hus
  rw [show (b.put l d).blk = b.blk from rfl] at hus
  have hbF : Fr F wz wy := hfy.mono fun x _ hx => by rw [show x = b.blk from hx]; exact HZ.out.f4 _ (List.mem_map.2 ⟨b, List.mem_of_getElem? HI.out, rfl⟩)
  have HUS := Lib.hid hus; have HBF := Lib.hid hbF
  clear hxn hyn hfy hy hus hbF
  have c66' : wx.cell? ⟨b.blk, 66, none⟩ = some (.bool b.dirty) := c66
  clear c66
  cases hdd : b.dirty
  all_goals
    rw [hdd] at hwy c66'
    simp only [Bool.false_or, Bool.true_or] at hwy
    clear hdd
    go_wp2_with (first
      | (refine wpList_load_mid rfl 72 _ rfl g o rfl l _ HRG.out Try.underlying72 rfl (by rw [h64]; kernel_rfl) ?_)
      | (refine wpList_store_mid rfl 72 _ _ rfl b.blk 2 l.toArray rfl rfl (by rw [List.size_toArray, h64]; exact HTH.out) (by rw [List.size_toArray, h64]; kernel_rfl) (all_oneCell_toArray HD.out.one) ?_))
    refine HUS.out.mono ?_
    rintro e w9 ⟨rfl, h9, hf9⟩
    have H9 := Lib.hid h9; have HF9 := Lib.hid hf9
    clear h9 hf9 HUS hwx hwy c66' f66 aa
    go_wp2_with fail
    go_ret
    exact ⟨rfl, ⟨mb, v, E, H9.out⟩, (HFZ.out.trans HBF.out).trans HF9.out⟩
end Go.Proofs.Ytjldocpjoiibjaa
