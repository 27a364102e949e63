/- Walk of file's Metas. -/
import Derived.Test.YtklamgijikcnaaaDoorF17
namespace Go.Proofs.YtklamgijikcnaaaDoor
open Go.RowKit Go.Sort Go.Shelf

theorem metas1_any {W : World} {fb db mb B : Nat} {P : Int → Option Nat} {d : Int → Int} {m : MM} (hin : FIn W fb db mb P d m) (hB : W.cell? ⟨B, 0, none⟩ = some (.pointer (some ⟨fb, 0, none⟩))) (x : Int) :
    Calls Tryd.prog 37 #[.int .i64 x, .pointer (some ⟨B, 0, none⟩)] W fun e w' => e = .returned (.bool (m x).isNone) ∧ w' = W := by
  have c1 := cell_blk_some hin.top (i := 1) rfl
  have lk := hin.lookM x
  cases hm : m x with
  | none =>
    rw [hin.gone hm] at lk
    clear hin hm
    go_enter Tryd.func37, Tryd.ntmps37
    go_wp2_with fail
    go_ret
    exact ⟨rfl, rfl⟩
  | some v =>
    obtain ⟨b, hb, _⟩ := hin.at (a := v.1) (u := v.2) hm
    rw [hb] at lk
    clear hin hm hb
    go_enter Tryd.func37, Tryd.ntmps37
    go_wp2_with fail
    go_ret
    exact ⟨rfl, rfl⟩
/-- The blocks of pointers that are there, in order. -/
def metasOf (m : MM) : List Int := metasN.filter fun k => (m k).isSome
set_option maxHeartbeats 2000000 in
set_option maxRecDepth 100000 in
theorem metas_any {w : World} {fb : Nat} {d : Int → Int} {m : MM} {F : Nat → Prop} (hF : FAt w fb d m F) :
    Calls Tryd.prog 14 #[.pointer (some ⟨fb, 0, none⟩)] w fun e w' => ∃ v, e = .returned v ∧ RowI w' w.heap.size v (metasOf m) ∧ Below w.heap.size w w' := by
  have HF := Lib.hid hF
  have HM := Lib.hid (imetas_any (hF.span.alloc (.cells #[.pointer (some ⟨fb, 0, none⟩)] 23)))
  clear hF
  go_enter Tryd.func14, Tryd.ntmps14
  go_wp2_with fail
  refine HM.out.mono ?_
  rintro e w2 ⟨a, rfl, hr, hb⟩
  have hz1 : (w.alloc (.cells #[.pointer (some ⟨fb, 0, none⟩)] 23)).heap.size = w.heap.size + 1 := by simp
  rw [hz1] at hr hb
  have hml : metasN.length = 42 := by decide +kernel
  have hb2 : Below w.heap.size w w2 := ((Below.refl _ w).alloc (Nat.le_refl _) _).trans (hb.mono (Nat.le_succ _))
  have hbox : w2.heap[w.heap.size]? = some (.cells #[.pointer (some ⟨fb, 0, none⟩)] 23 (0, 0)) := (hb.block w.heap.size (by omega)).trans (blk_new rfl)
  obtain ⟨a', c', ea, hlc, hrow⟩ := hr
  obtain ⟨g, cur, rfl, hg1, hgg, htk⟩ := hrow (by omega)
  injection ea with e1 e2 e3
  subst e1 e3
  rw [hml] at htk
  obtain ⟨db, mb, P, hin, hft⟩ := HF.out.ex
  have hin2 := hin.fr (S := fun _ => False) (Fr.below hb2) (fun _ _ => id)
  have hoffF : ∀ x, Foot fb db mb P x → x ≠ g := fun x hx e => by
    have := HF.out.lt x (hft x hx)
    omega
  have hcell : w2.cell? ⟨w.heap.size, 0, none⟩ = some (.pointer (some ⟨fb, 0, none⟩)) := cell_blk_some hbox (i := 0) rfl
  have hH : Holds (Value.int .i64) w2 g 0 metasN.toArray := by
    have := holds_of_block_i (ss := metasN) hgg (by rw [hml]; exact htk)
    exact this
  have eg : ∀ args w, (callFunc 37 args).run Tryd.prog w = .ok (.enter 37 args) w := enters_of Tryd.func37 (by kernel_rfl) rfl
  have hdel := Tryd.slices_DeleteFunc (Value.int .i64) (fun _ => rfl) (fun x => (m x).isNone) 37 #[.pointer (some ⟨w.heap.size, 0, none⟩)] eg 0 zero_int g 0 42 metasN.toArray w2
    (fun W x hW => ((metas1_any (hin2.fr (S := fun _ => False) (Fr.below hW) (fun _ _ => id)) ((hW.cell (p := ⟨w.heap.size, 0, none⟩) (by have := blk_lt hbox; exact this)).trans hcell) x).mono fun e w' ⟨h1, h2⟩ => ⟨h1, 0, h2⟩))
    (fun n os dk x _ => by
      have hf : Fr (fun y => some g = some y) w2 (sortWorld (Value.int .i64) w2 g 0 n dk os) := Fr.grown (grownBy_sorted_i dk)
      have hne : w.heap.size ≠ g := fun e => by
        rw [← e, hbox] at hgg
        injection hgg with hgg
        injection hgg with _ hgg _
        exact absurd hgg (by decide)
      refine ((metas1_any (hin2.fr hf (fun y hy e => hoffF y hy (Option.some.inj e).symm)) ?_ x).mono fun e w' ⟨h1, h2⟩ => ⟨h1, 0, h2⟩)
      exact (World.cell?_of_block (w := w2) (a := ⟨w.heap.size, 0, none⟩) (hf.block _ (blk_lt hbox) (fun e => hne (Option.some.inj e).symm))).trans hcell)
    hH (by rw [List.size_toArray, hml]; omega) (by rw [List.size_toArray, hml]; omega)
  rw [List.size_toArray, hml] at hdel
  have hfl : (metasN.toArray.toList.filter fun x => !(m x).isNone) = metasOf m := by
    unfold metasOf
    congr 1
    funext x
    cases m x <;> rfl
  rw [hfl] at hdel
  have hcs : 42 ≤ cur.size := by
    have := congrArg List.length htk
    rw [List.length_take, ints_length, hml, Array.length_toList] at this
    omega
  have hle : (metasOf m).length ≤ 42 := by rw [← hml]; exact List.length_filter_le _ _
  have HD := Lib.hid hdel; have HB2 := Lib.hid hb2; have HG := Lib.hid hgg; have HML := Lib.hid hml; have HG1 := Lib.hid hg1
  clear hdel hin hft hin2 hoffF hH eg hfl hbox hcell htk hgg hrow hb2 hb hlc hml hz1 HM e2
  have hcl := Lib.hid (fun a w => clip_any a (metasOf m).length 42 hle w)
  go_wp2_with fail
  refine HD.out.mono ?_
  rintro e w3 ⟨rfl, q, hw3⟩
  have hg3 : w3.heap[g]? = some (.cells (putCells encZ 0 ((metasOf m) ++ List.replicate (42 - (metasOf m).length) 0).toArray cur) 3 (0, 0)) := by
    have := heap_sorted_i (n := q) (os := #[]) ((metasOf m) ++ List.replicate (42 - (metasOf m).length) 0).toArray HG.out
    rw [hw3]
    rw [grow_empty] at this
    exact this
  have hf3 : Fr (fun y => some g = some y) w2 w3 := by
    have := grownBy_sorted_i (w := w2) (g := g) (n := q) (os := #[]) ((metasOf m) ++ List.replicate (42 - (metasOf m).length) 0).toArray
    rw [grow_empty] at this
    rw [hw3]
    exact Fr.grown this
  have G3 := Lib.hid hg3; have F3 := Lib.hid hf3
  clear hw3 hg3 hf3 HD
  go_wp2_with fail
  refine (hcl.out _ _).mono ?_
  rintro e w4 ⟨rfl, rfl⟩
  go_wp2_with fail
  go_ret
  refine ⟨_, rfl, ⟨_, _, rfl, Nat.le_refl _, fun _ => ⟨g, _, rfl, by have := HG1.out; omega, G3.out, ?_⟩⟩, HB2.out.trans (F3.out.toBelow (B := w.heap.size) HB2.out.size fun x hx => by have := Option.some.inj hx; have := HG1.out; omega)⟩
  have h1 := take_putCells_i cur ((metasOf m) ++ List.replicate (42 - (metasOf m).length) 0) (by rw [List.length_append, List.length_replicate]; omega)
  have h2 := congrArg (List.take (metasOf m).length) h1
  rw [List.take_take, List.length_append, Nat.min_eq_left (by omega), List.map_append, List.take_left' (by rw [List.length_map])] at h2
  exact h2
end Go.Proofs.YtklamgijikcnaaaDoor
