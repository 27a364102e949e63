/- Walks of inode's Block, of file's Block. -/
import Derived.Test.YtklamgijikcnaaaDoorF36
namespace Go.Proofs.YtklamgijikcnaaaDoor
open Go.RowKit

theorem run_index_u32 (ws : List Int) (hl : ws.length = 16) (s : Nat) (hs : s < 16) (w : World) :
    (Instr.index 97 (.agg (u32s ws).toArray) (.int .i64 s)).run Tryd.prog w = .ok (.int .u32 (ws.getD s 0)) w := by
  have h1 : (u32s ws)[s]? = some (.int .u32 (ws.getD s 0)) := by
    unfold u32s
    rw [List.getElem?_map, List.getD_eq_getElem?_getD, List.getElem?_eq_getElem (by omega)]
    rfl
  have hs0 : (0 : Int) ≤ (s : Int) := by omega
  obtain ⟨i0, hi, hz0, hz1, hz2⟩ := info_parts (P := Tryd.prog) (e := 54) (z := .int .u32 0) (size := 1) (bytes := 4) (by kernel_rfl)
  unfold Instr.index
  simp [asIntOf, run_underlying Tryd.underlying97, hs0, sizeOf, typeInfo, hi, hz1, part, h1]
  intro h
  omega
theorem clipB_any (a : Option Addr) (n c : Nat) (hn : n ≤ c) (w : World) :
    Calls Tryd.prog 63 #[.slice a n c] w fun e w' => e = .returned (.slice a n n) ∧ w' = w := by
  have m1 : (n : Int) ≤ (c : Int) := by omega
  have m2 : (0 : Int) ≤ (n : Int) := by omega
  go_enter Tryd.func63, Tryd.ntmps63
  go_wp2_with fail
  go_ret
  exact ⟨rfl, rfl⟩
def bytesN (ws : List Int) : List Int := ws.flatMap fourN
theorem bytesN_length : ∀ ws : List Int, (bytesN ws).length = 4 * ws.length
  | [] => rfl
  | x :: ws => by unfold bytesN; rw [List.flatMap_cons, List.length_append]; have := bytesN_length ws; unfold bytesN at this; rw [this, List.length_cons]; simp [fourN]; omega
theorem bytesN_bd (ws : List Int) : ∀ x ∈ bytesN ws, 0 ≤ x ∧ x < 256 := fun x hx => by
  unfold bytesN at hx
  obtain ⟨y, _, hy⟩ := List.mem_flatMap.1 hx
  simp only [fourN, List.mem_cons, List.not_mem_nil, or_false] at hy
  omega
theorem bytesN_snoc (ws : List Int) (x : Int) : bytesN (ws ++ [x]) = bytesN ws ++ fourN x := by unfold bytesN; rw [List.flatMap_append, List.flatMap_singleton]
theorem OwnB.rowB {w : World} {B : Nat} {a : Option Addr} {c : Nat} {l : List Int} (h : OwnB w B (.slice a l.length c) l) (hb : ∀ x ∈ l, 0 ≤ x ∧ x < 256) {c' : Nat} (hc' : l.length ≤ c') : RowB w (.slice a l.length c') l := by
  refine ⟨a, c', rfl, hc', hb, fun h0 => ?_⟩
  obtain ⟨g, c2, he, _, _, hg, hcell⟩ := own_cells h h0
  injection he with h1 _ _
  subst h1
  refine ⟨g, 0, rfl, hg, fun j x hj => ?_⟩
  rw [Nat.zero_add]
  exact hcell j _ (by unfold u8s; rw [List.getElem?_map, hj]; rfl)
structure IbSt (w : World) (ws : List Int) (s : Nat) (v : Value) (wr : World) : Prop where
  own : OwnB wr w.heap.size v (bytesN (ws.take s))
  bel : Below w.heap.size w wr
set_option maxHeartbeats 2000000 in
set_option maxRecDepth 100000 in
theorem iblock_any (ws : List Int) (hl : ws.length = 16) (hb : ∀ x ∈ ws, 0 ≤ x ∧ x < 4294967296) (w : World) :
    Calls Tryd.prog 41 #[.agg (u32s ws).toArray] w fun e w' => ∃ v, e = .returned v ∧ RowB w' v (bytesN ws) ∧ Below w.heap.size w w' := by
  have HI := Lib.hid (run_index_u32 ws hl)
  have HBD := Lib.hid hb; have HL := Lib.hid hl
  have hsz : (u32s ws).toArray.size = 16 := by unfold u32s; simp [hl]
  have HSZ := Lib.hid hsz
  clear hl hb hsz
  generalize hcs : (u32s ws).toArray = cs at *
  clear hcs
  go_enter Tryd.func41, Tryd.ntmps41
  have hbx : (w.alloc (.cells cs 97)).heap[w.heap.size]? = some (.cells cs 97 (0, 0)) := blk_new rfl
  have HBX := Lib.hid hbx
  have ST : Hid (IbSt w ws 0 (.slice none 0 0) (w.alloc (.cells cs 97))) := Lib.hid ⟨OwnB.nil _ _, (Below.refl _ w).alloc (Nat.le_refl _) _⟩
  clear hbx
  go_wp2_with (refine wpList_load_row rfl 97 _ rfl _ rfl 97 _ _ _ HBX.out Tryd.underlying97 rfl (by rw [HSZ.out]; kernel_rfl) ?_)
  generalize w.alloc (.cells cs 97) = w0 at ST ⊢
  clear HBX
  go_loopw [3, 7] (fun v idx wr => ∃ s : Nat, s ≤ 16 ∧ idx = .int .i64 s ∧ IbSt w ws s v wr) (fun _ idx _ => 16 - (RowKit.intOf idx).toNat)
  case atStart => exact ⟨0, by omega, rfl, ST.out⟩
  case round =>
    obtain ⟨s, hs, rfl, hst⟩ := hrel
    clear ST
    have HS := Lib.hid hst
    clear hst
    by_cases hs9 : s < 16
    · have hi0 := HI.out s hs9
      obtain ⟨x, hx⟩ : ∃ x, ws[s]? = some x := ⟨_, List.getElem?_eq_getElem (by rw [HL.out]; exact hs9)⟩
      have hxd : ws.getD s 0 = x := by rw [List.getD_eq_getElem?_getD, hx]; rfl
      rw [hxd] at hi0
      obtain ⟨hx0, hx1⟩ := HBD.out x (List.mem_of_getElem? hx)
      have HX := Lib.hid hx
      have hlb : (bytesN (ws.take s)).length ≤ 1000 := by rw [bytesN_length, List.length_take]; omega
      have HP := Lib.hid (put_four HS.out.own x hx0 hx1 hlb HS.out.bel.size)
      have b0 : (0 : Int) ≤ (s : Int) := by omega
      have b1 : (s : Int) < 16 := by omega
      clear hx hxd hlb
      go_wp2_with fail
      refine HP.out.mono ?_
      rintro e w1 ⟨v1, rfl, ho1, hf1, _⟩
      have S1 : Hid (IbSt w ws (s + 1) v1 w1) := Lib.hid ⟨by rw [take_at HX.out, bytesN_snoc]; exact ho1, HS.out.bel.trans (hf1.toBelow (B := w.heap.size) HS.out.bel.size fun g hg => (HS.out.own.lt g hg).1)⟩
      clear ho1 hf1 HP HS
      go_wp2_with fail
      go_roundw
      case rel => exact ⟨s + 1, by omega, by go_num, S1.out⟩
      case measure => simp only [RowKit.intOf]; omega
    · obtain rfl : s = 16 := by omega
      have ho := HS.out.own
      rw [show ws.take 16 = ws by rw [← HL.out]; exact List.take_length] at ho
      obtain ⟨a, c, rfl⟩ := ho.shape
      have hlc : (bytesN ws).length ≤ c := by
        rcases ho.2 with ⟨h1, h2⟩ | ⟨g, cap, cur, h1, _, _, h2, _⟩
        · injection h1 with _ _ h3; omega
        · injection h1 with _ _ h3; omega
      have HRB := Lib.hid (ho.rowB (bytesN_bd ws) (Nat.le_refl _)); have HB := Lib.hid HS.out.bel
      have HCL := Lib.hid (clipB_any a (bytesN ws).length c hlc wr)
      clear ho hlc HS
      go_wp2_with fail
      refine HCL.out.mono ?_
      rintro e w1 ⟨rfl, rfl⟩
      go_wp2_with fail
      go_ret
      exact ⟨_, rfl, HRB.out, HB.out⟩
/-- The pointers of a block of pointers. -/
def ptrsN (d : Int → Int) (m : MM) (n : Int) : List Int := (List.range 16).map fun s => match childN n s with | some c => adr d m c | none => 0
theorem ptrsN_at (d : Int → Int) (m : MM) (n : Int) {s : Nat} (h : s < 16) : (ptrsN d m n)[s]? = some (match childN n s with | some c => adr d m c | none => 0) := by
  unfold ptrsN
  rw [List.getElem?_map, List.getElem?_range h]
  rfl
theorem fill_same {l z : List Value} {s : Nat} {u : Value} (h1 : l[s]? = some u) (h2 : z[s]? = some u) : fill l z (s + 1) = fill l z s := by
  unfold fill
  obtain ⟨hz, e⟩ := List.getElem?_eq_some_iff.1 h2
  rw [take_at h1, List.append_assoc, List.drop_eq_getElem_cons hz, e]
  rfl
def BkSt (w : World) (bs : List Int) (s : Nat) (wr : World) : Prop := wr.heap[w.heap.size]? = some (.cells (fill (u32s bs) zeros16 s).toArray 97 (0, 0)) ∧ Below w.heap.size w wr
set_option maxHeartbeats 2000000 in
set_option maxRecDepth 100000 in
/-- Block of one that is there. -/
theorem block_there {w : World} {fb : Nat} {d : Int → Int} {m : MM} {F : Nat → Prop} {n : Int} (hF : FAt w fb d m F) (hI : Inv d m) (hn : (m n).isSome = true) (hb : ∀ c, 0 ≤ adr d m c ∧ adr d m c < 4096) :
    Calls Tryd.prog 22 #[.pointer (some ⟨fb, 0, none⟩), .int .i64 n] w fun e w' => ∃ v, e = .returned (.tuple #[v, .int .i64 0]) ∧ RowB w' v (bytesN (ptrsN d m n)) ∧ Below w.heap.size w w' := by
  obtain ⟨db, mb, P, hin, hft⟩ := hF.ex
  obtain ⟨⟨a, u⟩, hm⟩ := Option.isSome_iff_exists.1 hn
  have hmem := hI.metas hn
  have c1 := cell_blk_some hin.top (i := 1) rfl
  have lk := hin.lookM n
  obtain ⟨b, hpb, _⟩ := hin.at hm
  rw [hpb] at lk
  have HF := Lib.hid hF; have HI := Lib.hid hI; have HM := Lib.hid hmem; have HBD := Lib.hid hb
  clear hF hI hn hb hm hin hft hpb hmem
  go_enter Tryd.func22, Tryd.ntmps22
  go_wp2_with fail
  have ST : Hid (BkSt w (ptrsN d m n) 0 (w.alloc (.cells #[.int .u32 0, .int .u32 0, .int .u32 0, .int .u32 0, .int .u32 0, .int .u32 0, .int .u32 0, .int .u32 0, .int .u32 0, .int .u32 0, .int .u32 0, .int .u32 0, .int .u32 0, .int .u32 0, .int .u32 0, .int .u32 0] 97))) := Lib.hid ⟨by rw [fill_zero]; exact blk_new rfl, (Below.refl _ w).alloc (Nat.le_refl _) _⟩
  generalize (w.alloc (.cells #[.int .u32 0, .int .u32 0, .int .u32 0, .int .u32 0, .int .u32 0, .int .u32 0, .int .u32 0, .int .u32 0, .int .u32 0, .int .u32 0, .int .u32 0, .int .u32 0, .int .u32 0, .int .u32 0, .int .u32 0, .int .u32 0] 97)) = w0 at ST ⊢
  clear c1 lk
  go_loopw [17] (fun idx wr => ∃ s : Nat, s ≤ 16 ∧ idx = .int .i64 s ∧ BkSt w (ptrsN d m n) s wr) (fun idx _ => 16 - (RowKit.intOf idx).toNat)
  case atStart => exact ⟨0, by omega, rfl, ST.out⟩
  case round =>
    obtain ⟨s, hs, rfl, hst⟩ := hrel
    clear ST
    have HS := Lib.hid hst
    clear hst
    by_cases hs9 : s < 16
    · have hFr := HF.out.below (HS.out.2)
      have HC := Lib.hid (child_meta HM.out s hs9 hFr.span)
      have HFR := Lib.hid hFr
      have hat := ptrsN_at d m n hs9
      have b0 : (0 : Int) ≤ (s : Int) := by omega
      have b1 : (s : Int) < 16 := by omega
      obtain ⟨o, ho⟩ : ∃ o, o = childN n s := ⟨_, rfl⟩
      rw [← ho] at HC hat
      clear hFr ho
      have hfl : (fill (u32s (ptrsN d m n)) zeros16 s).length = 16 := fill_length _ _ _ rfl
      obtain ⟨u, hu⟩ : ∃ u, (fill (u32s (ptrsN d m n)) zeros16 s).toArray[s]? = some u := ⟨_, Array.getElem?_eq_getElem (by rw [List.size_toArray, hfl]; exact hs9)⟩
      have HU := Lib.hid hu
      clear hu hfl
      cases o with
      | none =>
        have S1 : Hid (BkSt w (ptrsN d m n) (s + 1) wr) := Lib.hid (by
          have h1 := HS.out.1
          unfold BkSt
          rw [fill_same (u := .int .u32 0) (by unfold u32s; rw [List.getElem?_map, hat]; rfl) (by unfold zeros16; rw [List.getElem?_replicate, if_pos hs9])]
          exact HS.out)
        have S2 : Hid (∀ k, BkSt w (ptrsN d m n) (s + 1) (wr.drewN k)) := Lib.hid fun k => ⟨S1.out.1, below_drewN S1.out.2 k⟩
        clear hat HS S1
        go_wp2_with fail
        refine HC.out.mono ?_
        rintro e w1 ⟨rfl, k, rfl⟩
        clear HC
        go_wp2_with fail
        go_roundw
        case rel => exact ⟨s + 1, by omega, by go_num, S2.out k⟩
        case measure => simp only [RowKit.intOf]; omega
      | some ch =>
        have hP1 := HS.out.1
        have hcell := cell_blk_some hP1 HU.out
        have hfz := free_blk (i := s) hP1
        obtain ⟨a, ha⟩ : ∃ a, a = adr d m ch := ⟨_, rfl⟩
        have hab := HBD.out ch
        rw [← ha] at hab
        have hwrap : IntKind.u32.wrap a = a := by rw [show IntKind.u32.wrap a = a % 4294967296 by simp [IntKind.wrap, IntKind.bits, IntKind.signed]]; omega
        have HG : Hid (∀ k, Calls Tryd.prog 16 #[.pointer (some ⟨fb, 0, none⟩), .int .i64 ch] (wr.drewN k) fun e w' => e = .returned (.int .i64 a) ∧ w' = wr.drewN k) := Lib.hid fun k => by
          rw [ha]
          exact get_any (HFR.out.below (below_drewN (Below.refl _ wr) k)) HI.out ch
        have HA := Lib.hid ha; have HAT := Lib.hid hat; have HP := Lib.hid hP1
        clear hat ha hab hP1
        go_wp2_with fail
        refine HC.out.mono ?_
        rintro e w1 ⟨rfl, k, rfl⟩
        clear HC
        go_wp2_with fail
        refine (HG.out k).mono ?_
        rintro e w2 ⟨rfl, rfl⟩
        go_wp2_with fail
        go_roundw
        case rel =>
          refine ⟨s + 1, by omega, by go_num, ?_, (below_drewN HS.out.2 k).setCell (Nat.le_refl _) _⟩
          have h1 := blk_set (w := wr.drewN k) (i := s) HP.out (.int .u32 a)
          rw [fill_set (u32s (ptrsN d m n)) zeros16 s rfl (by show s < 16; exact hs9) _ (by unfold u32s; rw [List.getElem?_map, HAT.out, HA.out]; rfl)] at h1
          exact h1
        case measure => simp only [RowKit.intOf]; omega
    · obtain rfl : s = 16 := by omega
      have h2 := HS.out.1
      rw [show fill (u32s (ptrsN d m n)) zeros16 16 = u32s (ptrsN d m n) from fill_all (u32s (ptrsN d m n)) zeros16 rfl] at h2
      have H2 := Lib.hid h2
      have HB := Lib.hid (iblock_any (ptrsN d m n) (by unfold ptrsN; simp) (fun x hx => by
        unfold ptrsN at hx
        obtain ⟨s, _, rfl⟩ := List.mem_map.1 hx
        cases childN n s with
        | none => exact ⟨Int.le_refl _, by show (0 : Int) < _; omega⟩
        | some c => have := HBD.out c; exact ⟨this.1, by show adr d m c < _; omega⟩) wr)
      clear h2
      go_wp2_with (refine wpList_load_row rfl 97 _ rfl _ rfl 97 _ _ _ H2.out Tryd.underlying97 rfl (by kernel_rfl) ?_)
      refine HB.out.mono ?_
      rintro e w1 ⟨v, rfl, hr, hb⟩
      have RES := Lib.hid (And.intro hr (below_call HS.out.2 hb (Nat.le_refl _)))
      clear hr hb
      go_wp2_with fail
      go_ret2
      exact ⟨v, rfl, RES.out⟩
end Go.Proofs.YtklamgijikcnaaaDoor
