/- Walk of index.Metas(0, 600): all blocks of pointers, in order. -/
import Derived.Test.YtklamgijikcnaaaDoorF6
namespace Go.Proofs.YtklamgijikcnaaaDoor
open Go.RowKit

def addAll (o ms : List Int) : List Int := ms.foldl (fun o m => if o.contains m then o else o ++ [m]) o
def outS (o : List Int) (i : Nat) : List Int := addAll o ((pathN i).map (·.1))
def outN (k : Nat) : List Int := (List.range k).foldl outS []
theorem addAll_snoc (o ms : List Int) (m : Int) : addAll o (ms ++ [m]) = if (addAll o ms).contains m then addAll o ms else addAll o ms ++ [m] := by unfold addAll; rw [List.foldl_append]; rfl
theorem addAll_length (o ms : List Int) : (addAll o ms).length ≤ o.length + ms.length := by
  unfold addAll
  induction ms generalizing o with
  | nil => simp
  | cons m ms ih =>
    rw [List.foldl_cons]
    have := ih (if o.contains m then o else o ++ [m])
    rw [List.length_cons]
    split at this
    · rw [if_pos ‹_›]; omega
    · rw [if_neg ‹_›]; rw [List.length_append, List.length_singleton] at this; omega
theorem outN_succ (k : Nat) : outN (k + 1) = addAll (outN k) ((pathN k).map (·.1)) := by unfold outN; rw [List.range_succ, List.foldl_append, List.foldl_cons, List.foldl_nil]; rfl
theorem findN_data {k : Nat} (h : k < 600) : findN (k : Int) = some (0, (k : Int)) := by unfold findN; rw [if_pos (by omega), if_pos (by omega)]
theorem path_short (k : Nat) (h : k < 600) : (pathN k).length ≤ 3 := by rw [path_length (findN_data h)]; have := rootN_le k; omega
theorem outN_length (k : Nat) (h : k ≤ 600) : (outN k).length ≤ 3 * k := by
  induction k with
  | zero => exact Nat.le_refl _
  | succ k ih =>
    rw [outN_succ]
    have h1 := addAll_length (outN k) ((pathN k).map (·.1))
    have h2 := path_short k (by omega)
    rw [List.length_map] at h1
    have := ih (by omega)
    omega
def outL (c : Nat) : List Int := metasN.filter fun m => decide (fstN m < 30 * (c : Int))
theorem outL_step : ∀ c : Nat, c < 20 → (List.range' (30 * c) 30).foldl outS (outL c) = outL (c + 1) := by decide +kernel
theorem outN_chunk : ∀ c : Nat, c ≤ 20 → outN (30 * c) = outL c
  | 0, _ => by decide +kernel
  | c + 1, h => by
    have ih := outN_chunk c (by omega)
    rw [← outL_step c (by omega), ← ih]
    unfold outN
    rw [← List.foldl_append, List.range_eq_range', List.range_eq_range']
    congr 1
    have := List.range'_append_1 (s := 0) (m := 30 * c) (n := 30)
    rw [Nat.zero_add] at this
    rw [this, show 30 * (c + 1) = 30 * c + 30 by omega]
theorem outN_all : outN 600 = metasN := by
  have := outN_chunk 20 (Nat.le_refl _)
  rw [show 30 * 20 = 600 by rfl] at this
  rw [this]; decide +kernel
/-- What Metas has at its head. -/
def MtSt (w : World) (l : List Int) (v : Value) (wr : World) : Prop := OwnI wr w.heap.size v l ∧ Below w.heap.size w wr ∧ SpanAt wr

/-- .. and at the inner one's: what of the row M has been taken in. -/
def MtIn (w : World) (B : Nat) (l M : List Int) (vM v : Value) (i : Nat) (wr : World) : Prop :=
  ∃ B', OwnI wr B' vM M ∧ OwnI wr B v (addAll l (M.take i)) ∧ Below w.heap.size w wr ∧ SpanAt wr ∧ ∀ g, v.ownBlock = some g → vM.ownBlock ≠ some g
set_option maxHeartbeats 4000000 in
set_option maxRecDepth 100000 in
theorem imetas_any {w : World} (S : SpanAt w) :
    Calls Tryd.prog 34 #[.int .i64 0, .int .i64 600] w fun e w' => ∃ a, e = .returned (.tuple #[.slice a 42 42, .int .i64 0]) ∧ RowI w' w.heap.size (.slice a 42 42) metasN ∧ Below w.heap.size w w' := by
  have hsp0 := S.lt
  have ST : Hid (MtSt w (outN 0) (.slice none 0 0) w) := Lib.hid ⟨IntsAt.nil _ _ _, Below.refl _ _, S⟩
  clear S
  go_enter Tryd.func34, Tryd.ntmps34
  go_wp2_with fail
  go_loopw [6, 7] (fun out n wr => ∃ k : Nat, k ≤ 600 ∧ n = .int .i64 k ∧ MtSt w (outN k) out wr) (fun _ n _ => 600 - (RowKit.intOf n).toNat)
  case atStart => exact ⟨0, by omega, rfl, ST.out⟩
  case round =>
    obtain ⟨k, hk, rfl, hst⟩ := hrel
    clear ST
    have HS := Lib.hid hst
    clear hst
    by_cases hlt : k < 600
    · have HT := Lib.hid (to_any (findN_data hlt) HS.out.2.2)
      go_wp2_with fail
      refine HT.out.mono ?_
      rintro e w1 ⟨vM, vS, rfl, hM, hS, hb⟩
      have hl0 := outN_length k hk
      obtain ⟨M, hMd⟩ : ∃ M, M = (pathN (k : Int)).map (·.1) := ⟨_, rfl⟩
      rw [← hMd] at hM
      have hM3 : M.length ≤ 3 := by rw [hMd, List.length_map]; exact path_short k hlt
      obtain ⟨N, hNd⟩ : ∃ N, N = (pathN (k : Int)).map (·.2) := ⟨_, rfl⟩
      rw [← hNd] at hS
      obtain ⟨xs, ys, hsh⟩ : ∃ xs ys, vS = .slice xs N.length ys := hS.shape
      clear hNd
      have hs1 := HS.out
      have o1 : OwnI w1 w.heap.size u6 (outN k) := hs1.1.fr (S := fun _ => False) (Fr.below hb) (fun _ _ => id)
      have b1 := below_call hs1.2.1 hb (Nat.le_refl _)
      have s1 := hs1.2.2.below hb
      have apart : ∀ g, u6.ownBlock = some g → vM.ownBlock ≠ some g := fun g hg hg' => by
        have := (hs1.1.lt g hg).2
        have := (hM.lt g hg').1
        omega
      subst hsh
      obtain ⟨x1, y1, rfl⟩ := hM.shape
      have hM1 := hM.below (w' := w1.alloc (.cells #[.int .i64 (rootV (k : Int)), .slice x1 M.length y1, .slice xs N.length ys] 119)) (Below.refl _ _ |>.alloc (Nat.le_refl _) _)
      have hst : OwnI (w1.alloc (.cells #[.int .i64 (rootV (k : Int)), .slice x1 M.length y1, .slice xs N.length ys] 119)) w.heap.size u6 (outN k) := o1.below (Below.refl _ _ |>.alloc (Nat.le_refl _) _)
      have b2 := below_alloc b1 (Nat.le_refl _) (.cells #[.int .i64 (rootV (k : Int)), .slice x1 M.length y1, .slice xs N.length ys] 119)
      have s2 := s1.alloc (.cells #[.int .i64 (rootV (k : Int)), .slice x1 M.length y1, .slice xs N.length ys] 119)
      have MD := Lib.hid hMd; have O2 := Lib.hid hst; have B2 := Lib.hid b2; have S2 := Lib.hid s2; have M2 := Lib.hid hM1; have AP := Lib.hid apart
      clear hMd hst b2 s2 hM1 o1 b1 s1 hs1 hM hS hb apart HT HS
      go_wp2_with fail
      generalize (w1.alloc (.cells #[.int .i64 (rootV (k : Int)), .slice x1 M.length y1, .slice xs N.length ys] 119)) = w2 at *
      generalize w1.heap.size = pb
      have AP2 := AP
      have ST2 : Hid (MtIn w w.heap.size (outN k) M (.slice x1 M.length y1) u6 0 w2) := Lib.hid ⟨_, M2.out, by rw [List.take_zero]; exact O2.out, B2.out, S2.out, AP.out⟩
      clear M2 O2 B2 S2 AP AP2
      go_loopw [6, 37] (fun out idx wr => ∃ i : Nat, i ≤ M.length ∧ idx = .int .i64 i ∧ MtIn w w.heap.size (outN k) M (.slice x1 M.length y1) out i wr) (fun _ idx _ => M.length - (RowKit.intOf idx).toNat)
      case atStart => exact ⟨0, by omega, rfl, ST2.out⟩
      case round =>
        obtain ⟨i, hi, rfl, hin⟩ := hrel
        clear ST2
        have HI := Lib.hid hin
        obtain ⟨B', hM, hO, hB, hS, hA⟩ := hin
        by_cases hil : i < M.length
        · obtain ⟨x, hx⟩ : ∃ x, M[i]? = some x := ⟨_, List.getElem?_eq_getElem hil⟩
          obtain ⟨gm, cm, hme, hmc, _, hml, hmcell, _⟩ := hM.cells (by omega)
          injection hme with h1 _ h2
          subst h1 h2
          have hcx := hmcell i x hx
          have hlen : (addAll (outN k) (M.take i)).length ≤ 3 * k + 3 := by
            have := addAll_length (outN k) (M.take i)
            rw [List.length_take] at this; omega
          have hco := Lib.hid (contains_own hO (by omega) x)
          have hsn := addAll_snoc (outN k) (M.take i) x
          rw [← take_at hx] at hsn
          have HSN := Lib.hid hsn
          have hii : (i : Int) < (M.length : Int) := by omega
          have hi0 : (0 : Int) ≤ (i : Int) := by omega
          obtain ⟨L, hL⟩ : ∃ L, L = addAll (outN k) (M.take i) := ⟨_, rfl⟩
          rw [← hL] at hco hO hlen
          have HL := Lib.hid hL
          have HO := Lib.hid hO; have HB := Lib.hid hB; have HS' := Lib.hid hS; have HA := Lib.hid hA; have HM := Lib.hid hM
          clear hsn hL hO hB hS hA hM hmcell hx HI
          cases hcc : L.contains x
          focus
            rw [hcc] at hco
            have HCC := Lib.hid hcc
            clear hcc
            go_wp2_with fail
            refine hco.out.mono ?_
            rintro e w' ⟨rfl, rfl⟩
            go_wp2_with (refine wpList_append_ints (m := [x]) rfl (.tmp 45) (.tmp 47) rfl (by rfl) (HO.out.fr ((Fr.refl (fun _ => False) w').alloc _) (fun _ _ => id)) _ 0 1 (by rfl) (news_one (blk_new (by rfl))) (by exact Nat.one_pos) (by simp only [List.length_cons, List.length_nil]; omega) (Nat.le_trans HB.out.size ((Fr.refl (fun _ => False) w').alloc _).size) ?_)
            intro g cap wA ho1 hf1 hg1 hlt1
            have h12 := ((Fr.refl (fun _ => False) w').alloc _ |>.mono fun _ _ => False.elim).trans hf1
            have hMA := HM.out.fr h12 (fun q hq e => HA.out q e hq)
            have hBA := HB.out.trans (h12.toBelow (B := w.heap.size) HB.out.size fun q hq => (HO.out.lt q hq).1)
            have hSA := HS'.out.fr h12 (fun e => by have := (HO.out.lt _ e).1; omega)
            have hAA : ∀ q, (Value.slice (some ⟨g, 0, none⟩) (L.length + [x].length) cap).ownBlock = some q → (Value.slice (some ⟨gm, 0, none⟩) M.length y1).ownBlock ≠ some q := fun q hq e => by
              have e1 : g = q := by injection hq
              subst e1
              rcases hg1 with hg1 | hg1
              · exact HA.out _ hg1 e
              · have := (HM.out.lt _ e).2
                have := ((Fr.refl (fun _ => False) w').alloc (.cells #[.int .i64 x] 3)).size
                omega
            have MA := Lib.hid hMA; have BA := Lib.hid hBA; have SA := Lib.hid hSA; have AA := Lib.hid hAA; have OA := Lib.hid ho1
            clear hMA hBA hSA hAA ho1 hf1 hg1 hlt1 h12
            go_wp2_with fail
            go_roundw
            case rel => exact ⟨i + 1, by omega, by go_num, _, MA.out, by rw [HSN.out, ← HL.out, HCC.out, if_neg (by simp)]; exact OA.out, BA.out, SA.out, AA.out⟩
            case measure => simp [RowKit.intOf]; omega
          focus
            rw [hcc] at hco
            have HCC := Lib.hid hcc
            clear hcc
            go_wp2_with fail
            refine hco.out.mono ?_
            rintro e w' ⟨rfl, rfl⟩
            go_wp2_with fail
            go_roundw
            case rel => exact ⟨i + 1, by omega, by go_num, _, HM.out, by rw [HSN.out, ← HL.out, HCC.out, if_pos rfl]; exact HO.out, HB.out, HS'.out, HA.out⟩
            case measure => simp [RowKit.intOf]; omega
        · obtain rfl : i = M.length := by omega
          rw [List.take_length] at hO
          have e1 : addAll (outN k) M = outN (k + 1) := by rw [outN_succ, MD.out]
          rw [e1] at hO
          have HO := Lib.hid hO; have HB := Lib.hid hB; have HS' := Lib.hid hS
          clear hO hB hS hA hM e1 HI
          go_wp2_with fail
          go_roundw
          case rel => exact ⟨k + 1, by omega, by go_num, HO.out, HB.out, HS'.out⟩
          case measure => simp [RowKit.intOf]; omega
    · obtain rfl : k = 600 := by omega
      have h1 := HS.out
      rw [outN_all] at h1
      obtain ⟨h1, h2, h3⟩ := h1
      obtain ⟨a, c, rfl⟩ := h1.shape
      have hm : metasN.length = 42 := by decide +kernel
      rw [hm] at h1 ⊢
      have hc : 42 ≤ c := by
        obtain ⟨_, c', e, hc, _⟩ := h1.cells (by rw [hm]; omega)
        injection e with _ _ e
        omega
      have hcl := Lib.hid (fun w => clip_any a 42 c hc w)
      have H1 := Lib.hid h1; have H2 := Lib.hid h2; have HM := Lib.hid hm
      clear h1 h2 h3 hm HS
      go_wp2_with fail
      refine (hcl.out _).mono ?_
      rintro e w' ⟨rfl, rfl⟩
      go_wp2_with fail
      go_ret2
      refine ⟨a, rfl, ?_, H2.out⟩
      obtain ⟨a', c', e, _, hr⟩ := H1.out.row
      injection e with e1 _ _
      subst e1
      exact ⟨a, 42, by rw [HM.out], by rw [HM.out]; omega, hr⟩
end Go.Proofs.YtklamgijikcnaaaDoor
