/- Walks of name.Within and name.Parent, for a seat without the reference (name/XN6, XN7). -/
import Derived.Test.YtoofcnehoffllaaGreatN3
import Derived.Deep.RegionHeld3
namespace Go.Proofs.YtoofcnehoffllaaGreat
open Go.RowKit

def isPre (l m : List ByteArray) : Bool := decide (l = m.take l.length)

theorem StrsAt.shape {B : Nat} {w : World} {v : Value} {l : List ByteArray} (h : StrsAt B w v l) : ∃ a c, v = .slice a l.length c := by
  rcases h with ⟨rfl, a, c, rfl⟩ | ⟨g, o, c, rfl, _⟩
  · exact ⟨a, c, rfl⟩
  · exact ⟨_, c, rfl⟩
theorem cells_getD {w : World} {g o : Nat} {l : List ByteArray} (h : ∀ j x, l[j]? = some x → w.cell? ⟨g, o + j, none⟩ = some (.string x)) : ∀ j, j < l.length → w.cell? ⟨g, o + j, none⟩ = some (.string (l.getD j ByteArray.empty)) := by
  intro j hj
  rw [h j _ (List.getElem?_eq_getElem hj)]; simp [List.getD_eq_getElem?_getD, List.getElem?_eq_getElem hj]

set_option maxHeartbeats 1000000 in
theorem within_any {B : Nat} {w : World} {u v : Value} {l m : List ByteArray} (h : StrsAt B w u l) (h' : StrsAt B w v m) (hl : l.length ≤ 1000) (hm : m.length ≤ 1000) :
    Calls Tryz.prog 134 #[u, v] w fun e w' => e = .returned (.bool (isPre l m)) ∧ Below w.heap.size w w' := by
  by_cases hlm : l.length ≤ m.length
  · have q : decide ((l.length : Int) ≤ (m.length : Int)) = true := dec_true (by omega)
    rcases h with ⟨rfl, a, c, rfl⟩ | ⟨g, o, c, rfl, h2, h3, h4, h5⟩
    · have hr : isPre [] m = true := by unfold isPre; simp
      rw [hr]
      clear hr
      obtain ⟨b, d, rfl⟩ := h'.shape
      have heq := fun w (a1 a2 : Option Addr) (c m d : Nat) (hm : m ≤ 1000) => Tryz.slices_Equal_string_empty a1 a2 c m d w (by omega)
      have HEQ := Lib.hid heq; clear heq
      have m0 : (0 : Int) ≤ (d : Int) := by omega
      cases b
      all_goals
        go_enter Tryz.func134, Tryz.ntmps134
        go_wp2_with fail
        refine (HEQ.out _ _ _ _ _ _ (by omega)).mono ?_
        rintro e w1 ⟨rfl, hw⟩
        obtain rfl := hw.symm
        go_wp2_with fail
        go_ret
        exact ⟨rfl, Below.refl _ _⟩
    · rcases h' with ⟨rfl, a', c', rfl⟩ | ⟨g', o', c', rfl, h2', h3', h4', h5'⟩
      · simp at hlm; subst hlm; simp at h3
      · have heq := Tryz.slices_Equal_string g o l.length c g' o' l.length c' l m w (Nat.le_refl _) hlm (by omega) (by omega) (cells_getD h5) (cells_getD h5')
        rw [List.take_length] at heq
        have hr : decide (l = m.take l.length) = isPre l m := rfl
        rw [hr] at heq
        have HEQ := Lib.hid heq; clear heq hr h5 h5'
        have m0 : (0 : Int) ≤ (l.length : Int) := by omega
        have m1 : (l.length : Int) ≤ (c' : Int) := by omega
        generalize isPre l m = r at *
        go_enter Tryz.func134, Tryz.ntmps134
        go_wp2_with fail
        refine HEQ.out.mono ?_
        rintro e w1 ⟨rfl, n, hw⟩
        have hb := below_drewN (Below.refl w.heap.size w) n
        rw [← hw] at hb
        clear hw
        go_wp2_with fail
        go_ret
        exact ⟨rfl, hb⟩
  · have q : decide ((l.length : Int) ≤ (m.length : Int)) = false := dec_false (by omega)
    have hr : isPre l m = false := by
      unfold isPre; refine dec_false (fun h => hlm ?_)
      have := congrArg List.length h
      rw [List.length_take] at this; omega
    rw [hr]
    clear hr
    obtain ⟨b, d, rfl⟩ := h'.shape
    obtain ⟨a, c, rfl⟩ := h.shape
    go_enter Tryz.func134, Tryz.ntmps134
    go_wp2_with fail
    go_ret
    exact ⟨rfl, Below.refl _ _⟩

/-! ### the parent -/
def parE (s : ByteArray) : Int := if splitE s = 0 then (if splitN s = [] then 22 else 0) else splitE s
def parN (s : ByteArray) : List ByteArray := if parE s = 0 then (splitN s).take ((splitN s).length - 1) else []
def parL (s : ByteArray) : ByteArray := if parE s = 0 then (splitN s).getD ((splitN s).length - 1) ⟨#[]⟩ else ⟨#[]⟩
def ParPost (w : World) (s : ByteArray) (e : Ending) (w' : World) : Prop :=
  ∃ v, e = .returned (.tuple #[v, .string (parL s), .int .i64 (parE s)]) ∧ StrsAt w'.heap.size w' v (parN s) ∧ Below w.heap.size w w' ∧ w'.ownsRow w.heap.size 9 1 v (parN s).length ((parN s).map Value.string)
theorem splitN_count (s : ByteArray) : (splitN s).length ≤ 1000 := by
  by_cases h : splitE s = 0
  · have h255 : ¬ 255 < s.size := by intro hb; unfold splitE at h; rw [if_pos hb] at h; cases h
    unfold splitN; rw [if_pos h]
    have := splitL_count s; omega
  · unfold splitN; rw [if_neg h]; simp
theorem StrsAt.take {B : Nat} {w : World} {g o c : Nat} {l : List ByteArray} (n : Nat) (hn : n ≤ l.length) (hc : l.length ≤ c) (hg : g < B) (h : ∀ j x, l[j]? = some x → w.cell? ⟨g, o + j, none⟩ = some (.string x)) :
    StrsAt B w (.slice (some ⟨g, o, none⟩) n c) (l.take n) := by
  by_cases h0 : 0 < n
  · have hlen : (l.take n).length = n := by rw [List.length_take]; omega
    refine .inr ⟨g, o, c, by rw [hlen], by omega, by omega, hg, fun j x hx => ?_⟩
    rw [List.getElem?_take] at hx
    split at hx
    · exact h j x hx
    · cases hx
  · obtain rfl : n = 0 := by omega
    exact .inl ⟨by simp, _, _, rfl⟩
set_option maxHeartbeats 2000000 in
theorem parent_any (s : ByteArray) (hs : s.size ≤ 1000000) (w : World) : Calls Tryz.prog 43 #[.string s] w (ParPost w s) := by
  have hsp := split_any s hs w
  have hct := splitN_count s
  have hDE : ∀ c, splitE s = c → c ≠ 0 → parE s = c ∧ parN s = [] ∧ parL s = ⟨#[]⟩ := fun c hc h0 => by
    have h1 : parE s = c := by unfold parE; rw [hc, if_neg h0]
    exact ⟨h1, by unfold parN; rw [h1, if_neg h0], by unfold parL; rw [h1, if_neg h0]⟩
  have hD2 : splitE s = 0 → splitN s = [] → parE s = 22 ∧ parN s = [] ∧ parL s = ⟨#[]⟩ := fun h0 hn => by
    have h1 : parE s = 22 := by unfold parE; rw [if_pos h0, if_pos hn]
    exact ⟨h1, by unfold parN; rw [h1]; rfl, by unfold parL; rw [h1]; rfl⟩
  have hD0 : splitE s = 0 → splitN s ≠ [] → parE s = 0 ∧ parN s = (splitN s).take ((splitN s).length - 1) ∧ parL s = (splitN s).getD ((splitN s).length - 1) ⟨#[]⟩ := fun h0 hn => by
    have h1 : parE s = 0 := by unfold parE; rw [if_pos h0, if_neg hn]
    exact ⟨h1, by unfold parN; rw [h1]; rfl, by unfold parL; rw [h1]; rfl⟩
  unfold SplitPost at hsp
  have HS := Lib.hid hsp
  have HDE := Lib.hid hDE; have HD2 := Lib.hid hD2; have HD0 := Lib.hid hD0
  clear hsp hDE hD2 hD0
  generalize splitN s = L at *
  generalize splitD s = dd at *
  by_cases h0 : splitE s = 0
  · have h0' := HS.out
    rw [h0] at h0'
    have HS' := Lib.hid h0'; clear h0'
    have H0 := Lib.hid h0; clear h0
    go_enter Tryz.func43, Tryz.ntmps43
    go_wp2_with fail
    refine HS'.out.mono ?_
    rintro e w1 ⟨v, rfl, hst, hb⟩
    rcases hst with ⟨hL, a, c, rfl⟩ | ⟨g, o, c, rfl, h2, h3, h4, h5⟩
    · obtain ⟨d1, d2, d3⟩ := HD2.out H0.out hL
      have D1 := Lib.hid d1; have D2 := Lib.hid d2; have D3 := Lib.hid d3
      clear d1 d2 d3 hL
      go_wp2_with fail
      go_ret3
      exact ⟨_, by rw [D1.out, D3.out]; rfl, by rw [D2.out]; exact .nil, hb, by rw [D2.out]; exact ⟨rfl, .inl ⟨rfl, rfl⟩⟩⟩
    · have hne : L ≠ [] := by intro h; subst h; simp at h3
      obtain ⟨d1, d2, d3⟩ := HD0.out H0.out hne
      obtain ⟨n, hn⟩ : ∃ n, L.length - 1 = n := ⟨_, rfl⟩
      have hnl : n < L.length := by omega
      rw [hn] at d2 d3
      obtain ⟨x, hx⟩ : ∃ x, L[n]? = some x := ⟨_, List.getElem?_eq_getElem hnl⟩
      have hxd : L.getD n ⟨#[]⟩ = x := by rw [List.getD_eq_getElem?_getD, hx]; rfl
      rw [hxd] at d3
      have hc := h5 n x hx
      have D1 := Lib.hid d1; have D2 := Lib.hid d2; have D3 := Lib.hid d3; have H5 := Lib.hid h5
      have m0 : (0 : Int) ≤ (n : Int) := by omega
      have m1 : (n : Int) < (L.length : Int) := by omega
      have m4 : (n : Int) ≤ (c : Int) := by omega
      have m5 : IntKind.i64.wrap ((L.length : Int) - 1) = (n : Int) := by
        have h : IntKind.i64.wrap ((L.length : Int) - 1) = (L.length : Int) - 1 := IntWalk.i64_in _ (by omega)
        omega
      have m6 : n ≤ c := by omega
      have m7 : ¬ (n : Int) < 0 := by omega
      have m8 : decide ((n : Int) < 0) = false := dec_false m7
      have hcl := fun (w' : World) (hb : Below w1.heap.size w1 w') => Tryz.slices_Clone_string g o n c L w' (by omega) (by omega) (fun j hj => (cell_below hb h4).trans (cells_getD h5 j hj))
      have HCL := Lib.hid hcl
      clear d1 d2 d3 h5 hx hxd hne hcl
      go_wp2_with fail
      have hc0 : ∀ w', Below w1.heap.size w1 w' → w'.cell? ⟨g, o + n, none⟩ = some (.string x) := fun w' hb => (cell_below hb h4).trans hc
      have HC0 := Lib.hid hc0
      go_region_held3 (fun w' => w'.cell? ⟨g, o + n, none⟩ = some (.string x) ∧ Below w1.heap.size w1 w')
        (first | exact ⟨hc, below_drewN (Below.refl _ _) 1⟩ | exact ⟨HC0.out _ hbC, hbC⟩)
        (first
          | (go_at_call 74; refine (HCL.out _ (And.right (by assumption))).mono ?_; rintro e w2 ⟨v', rfl, hown, hnn, hb2⟩; have hown := own_mono hown (Nat.le_trans hb.size (Below.size (B := w1.heap.size) (w := w1) (And.right (by assumption)))); have hbC := below_call (B := w1.heap.size) (a := w1) (And.right (by assumption)) hb2 (Nat.le_refl _)))
      have hlen : (L.take n).length = n := by rw [List.length_take]; omega
      have hst := StrsAt.own (l := L.take n) (by rw [hlen]; exact hown)
      have hbZ := below_call hb hbC (Nat.le_refl _)
      have hown2 : w2.ownsRow w.heap.size 9 1 v' (L.take n).length ((L.take n).map Value.string) := by rw [hlen]; exact hown
      have HOWN := Lib.hid hown2
      clear hown hown2 hb2 hbC hb hnn
      go_wp2_with fail
      go_ret3
      exact ⟨v', by rw [D1.out, D3.out]; rfl, by rw [D2.out]; exact hst, hbZ, by rw [D2.out]; exact HOWN.out⟩
  · obtain ⟨d1, d2, d3⟩ := HDE.out _ rfl h0
    have h1 : (splitE s == 0) = false := by simpa using h0
    have D1 := Lib.hid d1; have D2 := Lib.hid d2; have D3 := Lib.hid d3
    clear d1 d2 d3 HDE HD2 HD0 h0
    generalize splitE s = q at *
    go_enter Tryz.func43, Tryz.ntmps43
    go_wp2_with fail
    refine HS.out.mono ?_
    rintro e w1 ⟨v, rfl, hst, hb⟩
    obtain ⟨a, c, rfl⟩ := hst.shape
    go_wp2_with fail
    go_ret3
    exact ⟨_, by rw [D1.out, D3.out]; rfl, by rw [D2.out]; exact .nil, hb, by rw [D2.out]; exact ⟨rfl, .inl ⟨rfl, rfl⟩⟩⟩
end Go.Proofs.YtoofcnehoffllaaGreat
