/- The reader of the statement FileBack: the blocks of a map, counted. -/
/- Two maps of the same addresses; their roots compared. -/
import Derived.Test.YtklamgijikcnaaaDoorF43
import Derived.Test.YtklamgijikcnaaaDoorF41
namespace Go.Proofs.YtklamgijikcnaaaDoor
open Go.RowKit

set_option maxRecDepth 100000 in
theorem block_none {w : World} {fb : Nat} {d : Int → Int} {m : MM} {F : Nat → Prop} {n : Int} (hF : FAt w fb d m F) (hn : m n = none) :
    Calls Tryd.prog 22 #[.pointer (some ⟨fb, 0, none⟩), .int .i64 n] w fun e w' => e = .returned (.tuple #[.slice none 0 0, .int .i64 2]) ∧ w' = w := by
  obtain ⟨db, mb, P, hin, _⟩ := hF.ex
  have c1 := cell_blk_some hin.top (i := 1) rfl
  have lk := hin.lookM n
  rw [hin.gone hn] at lk
  clear hF hin hn
  go_enter Tryd.func22, Tryd.ntmps22
  go_wp2_with fail
  go_ret2
  exact ⟨rfl, rfl⟩
/-- How often each was asked. -/
def askF (tr : List Int) (y : Int) : Option Value := if y ∈ tr then some (.int .i64 (RowKit.wrap64 (tr.count y))) else none
theorem askF_nil : askF [] = fun _ => none := funext fun y => if_neg (by simp)
theorem askF_get (tr : List Int) (y : Int) : (askF tr y).getD (.int .i64 0) = .int .i64 (RowKit.wrap64 (tr.count y)) := by
  unfold askF
  split
  · rfl
  · rename_i h
    rw [List.count_eq_zero.2 h]
    show Value.int .i64 0 = .int .i64 (RowKit.wrap64 0)
    rw [show RowKit.wrap64 0 = 0 by unfold RowKit.wrap64; omega]
theorem askF_put (tr : List Int) (y : Int) : putK (askF tr) y (.int .i64 (RowKit.wrap64 (RowKit.wrap64 (tr.count y) + 1))) = askF (tr ++ [y]) := by
  funext z
  unfold askF
  by_cases e : z = y
  · subst e
    rw [putK_self, if_pos (by simp), List.count_append, List.count_singleton_self]
    congr 2
    unfold RowKit.wrap64
    omega
  · have h1 : (z ∈ tr ++ [y]) = (z ∈ tr) := by simp [e]
    have h2 : [y].count z = 0 := List.count_eq_zero.2 (by simp [e])
    rw [putK_other e, List.count_append, h2, Nat.add_zero]
    simp only [h1]
/-- The blocks by their addresses. -/
def rdB (d : Int → Int) (m : MM) (f : Int → Option Value) (a : Int) : Option (List Int) := match f a with
  | some (.int .i64 k) => if (m k).isSome then some (bytesN (ptrsN d m k)) else none
  | _ => none
/-- What stands in the law's memory while the map is loaded anew. -/
structure BackJ (fb mvb wvb avb wb ab : Nat) (d : Int → Int) (m : MM) (F : Nat → Prop) (f : Int → Option Value) (tr : List Int) (w : World) : Prop where
  at_ : FAt w fb d m F
  mc : w.heap[mvb]? = some (.cells #[.pointer (some ⟨fb, 0, none⟩)] 23 (0, 0))
  wc : w.heap[wvb]? = some (.cells #[.map (some wb)] 27 (0, 0))
  ac : w.heap[avb]? = some (.cells #[.map (some ab)] 27 (0, 0))
  wm : MapIs (Value.int .i64) w wb f
  am : MapIs (Value.int .i64) w ab (askF tr)
  fo : ¬ F ab
  wo : wb ≠ ab
  sp : ab ≠ 0
theorem BackJ.fr {S : Nat → Prop} {fb mvb wvb avb wb ab : Nat} {d : Int → Int} {m : MM} {F : Nat → Prop} {f : Int → Option Value} {tr : List Int} {w w' : World} (h : BackJ fb mvb wvb avb wb ab d m F f tr w) (hf : Fr S w w') (hs : ∀ x, x < w.heap.size → ¬ S x) : BackJ fb mvb wvb avb wb ab d m F f tr w' := by
  have hf' : Fr (fun _ => False) w w' := hf.mono fun x hx hS => hs x hx hS
  exact ⟨h.at_.fr hf' (fun _ _ => id) id, (hf'.block _ (blk_lt h.mc) id).trans h.mc, (hf'.block _ (blk_lt h.wc) id).trans h.wc, (hf'.block _ (blk_lt h.ac) id).trans h.ac, h.wm.fr hf' id, h.am.fr hf' id, h.fo, h.wo, h.sp⟩
def IntsF (f : Int → Option Value) : Prop := ∀ a v, f a = some v → ∃ k, v = .int .i64 k
def BackPost (fb mvb wvb avb wb ab : Nat) (d : Int → Int) (m : MM) (F : Nat → Prop) (f : Int → Option Value) (tr : List Int) (o : Option (List Int)) (w : World) (e : Ending) (w' : World) : Prop :=
  BackJ fb mvb wvb avb wb ab d m F f tr w' ∧ Fr (fun x => x = ab) w w' ∧ match o with
    | none => ∃ v, e = .returned (.tuple #[v, .bool false])
    | some bs => ∃ v, e = .returned (.tuple #[v, .bool true]) ∧ RowB w' v bs
set_option maxHeartbeats 2000000 in
set_option maxRecDepth 100000 in
theorem back_read {fb mvb wvb avb wb ab : Nat} {d : Int → Int} {m : MM} {F : Nat → Prop} {f : Int → Option Value} {tr : List Int} {p : Int} {w : World} (hi : IntsF f) (hI : Inv d m) (hb : ∀ c, 0 ≤ adr d m c ∧ adr d m c < 4096) (hj : BackJ fb mvb wvb avb wb ab d m F f tr w) :
    Calls Tryd.prog 21 #[.int .i64 p, .pointer (some ⟨avb, 0, none⟩), .pointer (some ⟨mvb, 0, none⟩), .pointer (some ⟨wvb, 0, none⟩)] w (BackPost fb mvb wvb avb wb ab d m F f (tr ++ [p]) (rdB d m f p) w) := by
  have offc : ∀ {b : Nat} {c : Array Value} {t : TypeId} {z : Nat × Nat}, w.heap[b]? = some (.cells c t z) → ¬ b = ab := fun {b c t z} hb e => by
    obtain ⟨es, cl, hm, _⟩ := hj.am
    rw [e, hm] at hb
    injection hb with hb
    cases hb
  have ca := cell_blk_some hj.ac (i := 0) rfl
  have lk := hj.am.look1 klI Tryd.underlying27 zero_int p
  rw [askF_get] at lk
  obtain ⟨w1, hup, hM1, hf1⟩ := hj.am.put klI Tryd.underlying27 p (.int .i64 (RowKit.wrap64 (RowKit.wrap64 (tr.count p) + 1)))
  rw [askF_put] at hM1
  have hJ1 : BackJ fb mvb wvb avb wb ab d m F f (tr ++ [p]) w1 :=
    ⟨hj.at_.fr hf1 (fun x hx e => hj.fo (by rw [← show x = ab from e]; exact hx)) (fun e => hj.sp (show _ = ab from e).symm), (hf1.block _ (blk_lt hj.mc) (offc hj.mc)).trans hj.mc, (hf1.block _ (blk_lt hj.wc) (offc hj.wc)).trans hj.wc, (hf1.block _ (blk_lt hj.ac) (offc hj.ac)).trans hj.ac, hj.wm.fr hf1 hj.wo, hM1, hj.fo, hj.wo, hj.sp⟩
  have cm1 := cell_blk_some hJ1.mc (i := 0) rfl
  have cw1 := cell_blk_some hJ1.wc (i := 0) rfl
  have lw1 := hJ1.wm.look1 klI Tryd.underlying27 zero_int p
  have J1 := Lib.hid hJ1; have HF1 := Lib.hid hf1; have HBD := Lib.hid hb; have HI := Lib.hid hI
  generalize RowKit.wrap64 (tr.count p) = q at *
  clear hM1 hf1 hJ1 hb hI offc hj
  cases hfp : f p with
  | none =>
    have hrd : rdB d m f p = none := by unfold rdB; rw [hfp]
    have HRD := Lib.hid hrd
    have HB := Lib.hid (block_none J1.out.at_ (n := 0) (HI.out.data (by omega)))
    rw [hfp] at lw1
    clear hrd hfp
    go_enter Tryd.func21, Tryd.ntmps21
    go_wp2_with fail
    refine HB.out.mono ?_
    rintro e w2 ⟨rfl, rfl⟩
    go_wp2_with fail
    go_ret2
    rw [HRD.out]
    exact ⟨J1.out, HF1.out, _, rfl⟩
  | some v =>
    obtain ⟨k, rfl⟩ := hi p v hfp
    rw [hfp] at lw1
    cases hk : m k with
    | none =>
      have hrd : rdB d m f p = none := by unfold rdB; rw [hfp]; simp [hk]
      have HRD := Lib.hid hrd
      have HB := Lib.hid (block_none J1.out.at_ hk)
      clear hrd hfp hk hi
      go_enter Tryd.func21, Tryd.ntmps21
      go_wp2_with fail
      refine HB.out.mono ?_
      rintro e w2 ⟨rfl, rfl⟩
      go_wp2_with fail
      go_ret2
      rw [HRD.out]
      exact ⟨J1.out, HF1.out, _, rfl⟩
    | some z =>
      have hrd : rdB d m f p = some (bytesN (ptrsN d m k)) := by unfold rdB; rw [hfp]; simp [hk]
      have HRD := Lib.hid hrd
      have HB := Lib.hid (block_there J1.out.at_ HI.out (n := k) (by rw [hk]; rfl) HBD.out)
      clear hrd hfp hk hi
      go_enter Tryd.func21, Tryd.ntmps21
      go_wp2_with fail
      refine HB.out.mono ?_
      rintro e w2 ⟨v2, rfl, hr2, hb2⟩
      have hz : w.heap.size ≤ w1.heap.size := HF1.out.size
      have RES : Hid (BackJ fb mvb wvb avb wb ab d m F f (tr ++ [p]) w2 ∧ Fr (fun x => x = ab) w w2 ∧ RowB w2 v2 (bytesN (ptrsN d m k))) := Lib.hid ⟨J1.out.fr (S := fun _ => False) (Fr.below hb2) (fun _ _ => id), HF1.out.trans (Fr.below hb2), hr2⟩
      clear hr2 hb2 HB
      go_wp2_with fail
      go_ret2
      rw [HRD.out]
      exact ⟨RES.out.1, RES.out.2.1, _, rfl, RES.out.2.2⟩
/-- It is a reader. -/
theorem back_reader {Z fb mvb wvb avb wb ab : Nat} {d : Int → Int} {m : MM} {F : Nat → Prop} {f : Int → Option Value} (hi : IntsF f) (hI : Inv d m) (hb : ∀ c, 0 ≤ adr d m c ∧ adr d m c < 4096) (hz : ab < Z) (hs : ab ≠ 0) :
    Reader Z (fun x => x = ab) (rdB d m f) 21 #[.pointer (some ⟨avb, 0, none⟩), .pointer (some ⟨mvb, 0, none⟩), .pointer (some ⟨wvb, 0, none⟩)] (fun tr w => BackJ fb mvb wvb avb wb ab d m F f tr w ∧ (∀ x, F x → x < Z) ∧ mvb < Z ∧ wvb < Z ∧ avb < Z ∧ wb < Z ∧ 0 < Z) := by
  refine ⟨fun tr p w hj _ _ => ?_, fun args w => ?_, fun tr w w' S hj hf hS => ?_, fun x hx => by rw [show x = ab from hx]; exact ⟨hz, hs⟩⟩
  · refine (back_read hi hI hb hj.1).mono ?_
    rintro e w' ⟨h1, h2, h3⟩
    exact ⟨⟨h1, hj.2⟩, h2, h3⟩
  · kernel_rfl
  · obtain ⟨h, h1, h2, h3, h4, h5, h6⟩ := hj
    have off : ∀ {b}, b < Z → ¬ S b := fun hb hs => by have := hS _ hs; omega
    exact ⟨⟨h.at_.fr hf (fun x hx => off (h1 x hx)) (off h6), (hf.block _ (blk_lt h.mc) (off h2)).trans h.mc, (hf.block _ (blk_lt h.wc) (off h3)).trans h.wc, (hf.block _ (blk_lt h.ac) (off h4)).trans h.ac, h.wm.fr hf (off h5), h.am.fr hf (off hz), h.fo, h.wo, h.sp⟩, h1, h2, h3, h4, h5, h6⟩
end Go.Proofs.YtklamgijikcnaaaDoor

namespace Go.Proofs.YtklamgijikcnaaaDoor
open Go.RowKit

section
variable {d d' : Int → Int} {m m' : MM}
theorem same_data (h : Inv d m) (h' : Inv d' m') (he : adr d' m' = adr d m) : d' = d := by
  funext x
  by_cases hx : 0 ≤ x
  · have := congrFun he x
    rwa [adr_data hx, adr_data hx] at this
  · rw [h.neg (by omega), h'.neg (by omega)]
theorem same_some (h : Inv d m) (h' : Inv d' m') (he : adr d' m' = adr d m) (k : Int) : (m' k).isSome = (m k).isSome := by
  rw [Bool.eq_iff_iff, cov h k, cov h' k, same_data h h' he]
theorem same_metas (h : Inv d m) (h' : Inv d' m') (he : adr d' m' = adr d m) : metasOf m' = metasOf m := by
  unfold metasOf
  exact List.filter_congr fun k _ => same_some h h' he k
theorem same_places (h : Inv d m) (h' : Inv d' m') (he : adr d' m' = adr d m) : placesOf d' m' = placesOf d m := by
  unfold placesOf placesD placesM
  rw [same_data h h' he, same_metas h h' he]
  have hk : ∀ k ∈ metasOf m, adrM m' k = adrM m k := fun k hk => by
    have hn := (metasN_neg k (List.mem_filter.1 hk).1).1
    have := congrFun he k
    rwa [adr_meta hn, adr_meta hn] at this
  congr 1
  rw [List.filter_congr (q := fun k => decide (adrM m k ≠ 0)) fun k hk' => by rw [hk k hk']]
  exact List.map_congr_left fun k hk' => by rw [hk k (List.mem_filter.1 hk').1]
theorem rootW_eq (hb : ∀ c, 0 ≤ adr d m c ∧ adr d m c < 4096) : rootW d m = u32s (rootL d m) := by
  unfold rootW u32s rootL
  rw [List.map_map]
  refine List.map_congr_left fun c _ => ?_
  have := hb c
  show Value.int .u32 (IntKind.u32.wrap (adr d m c)) = .int .u32 (adr d m c)
  rw [show IntKind.u32.wrap (adr d m c) = adr d m c % 4294967296 by simp [IntKind.wrap, IntKind.bits, IntKind.signed]]
  congr 1
  omega
theorem same_root (he : adr d' m' = adr d m) : rootW d' m' = rootW d m := by unfold rootW; rw [he]
end
theorem eqIn_root (dp : Nat) (d : Int → Int) (m : MM) (w : World) : (Op.equalIn (dp + 2) 55 (.agg (rootW d m).toArray) (.agg (rootW d m).toArray)).run Tryd.prog w = .ok true w := by
  obtain ⟨i, hi⟩ : ∃ i, Tryd.prog.info? 54 = some i := Option.isSome_iff_exists.1 (by kernel_rfl)
  have hs : i.size = 1 := by
    have : (Tryd.prog.info? 54).map (·.size) = some 1 := by kernel_rfl
    rw [hi] at this; exact Option.some.inj this
  rw [run_equalIn_array (dp + 1) _ 54 9 Tryd.underlying55 i hi, hs]
  rw [run_eqElems (dp + 1) _ 1 _ _ (fun _ => true)]
  · rfl
  · intro j hj
    have hjn := List.mem_range.1 hj
    obtain ⟨a, ha⟩ : ∃ a, (rootW d m)[j]? = some (.int .u32 a) := ⟨_, by unfold rootW; rw [List.getElem?_map, List.getElem?_eq_getElem (show j < rootsN.length from hjn)]; rfl⟩
    have hag := Tryd.isAgg54
    refine ⟨.int .u32 a, .int .u32 a, ?_, ?_, ?_⟩
    · simp [part, hag, ha]
    · simp [part, hag, ha]
    · go_simp
end Go.Proofs.YtklamgijikcnaaaDoor
