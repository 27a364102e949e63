/- Walk of name.Parent. -/
import Derived.Test.YtpgeldhleikcdaaN6
namespace Go.Proofs.Ytpgeldhleikcdaa
open Go.RowKit

set_option maxHeartbeats 2000000 in
theorem parent_any (s : ByteArray) (hs : s.size ≤ 1000000) (w : World) : Calls Try.prog 16 #[.string s] w (ParPost w s) := by
  have hsp := split_any s hs w
  have hct := splitN_count s
  have hDE : ∀ c, splitE s = c → c ≠ 0 → parE s = c ∧ parN s = [] ∧ parL s = ⟨#[]⟩ := fun c hc h0 => by
    have h1 : parE s = c := by unfold parE; rw [hc, if_neg h0]
    exact ⟨h1, by unfold parN; rw [h1, if_neg h0], by unfold parL; rw [h1, if_neg h0]⟩
  have hD2 : splitE s = 0 → splitN s = [] → parE s = 22 ∧ parN s = [] ∧ parL s = ⟨#[]⟩ := fun h0 hn => by
    have h1 : parE s = 22 := by unfold parE; rw [if_pos h0, if_pos hn]
    exact ⟨h1, by unfold parN; rw [h1]; rfl, by unfold parL; rw [h1]; rfl⟩
  have hD0 : splitE s = 0 → splitN s ≠ [] → parE s = 0 ∧ parN s = (splitN s).take ((splitN s).length - 1) ∧ parL s = (splitN s).getD ((splitN s).length - 1) ⟨#[]⟩ := fun h0 hn => by
    have h1 : parE s = 0 := by unfold parE; rw [if_pos h0, if_neg hn]
    exact ⟨h1, by unfold parN; rw [h1]; rfl, by unfold parL; rw [h1]; rfl⟩
  unfold SplitPost at hsp
  have HS := Lib.hid hsp
  have HDE := Lib.hid hDE; have HD2 := Lib.hid hD2; have HD0 := Lib.hid hD0
  clear hsp hDE hD2 hD0
  generalize splitN s = L at *
  generalize splitD s = dd at *
  by_cases h0 : splitE s = 0
  · have h0' := HS.out
    rw [h0] at h0'
    have HS' := Lib.hid h0'; clear h0'
    have H0 := Lib.hid h0; clear h0
    go_enter Try.func16, Try.ntmps16
    go_wp2_with fail
    refine HS'.out.mono ?_
    rintro e w1 ⟨v, rfl, hst, hb⟩
    rcases hst with ⟨hL, a, c, rfl⟩ | ⟨g, o, c, rfl, h2, h3, h4, h5⟩
    · obtain ⟨d1, d2, d3⟩ := HD2.out H0.out hL
      have D1 := Lib.hid d1; have D2 := Lib.hid d2; have D3 := Lib.hid d3
      clear d1 d2 d3 hL
      go_wp2_with fail
      go_ret3
      exact ⟨_, by rw [D1.out, D3.out]; rfl, by rw [D2.out]; exact .nil, hb⟩
    · have hne : L ≠ [] := by intro h; subst h; simp at h3
      obtain ⟨d1, d2, d3⟩ := HD0.out H0.out hne
      obtain ⟨n, hn⟩ : ∃ n, L.length - 1 = n := ⟨_, rfl⟩
      have hnl : n < L.length := by omega
      rw [hn] at d2 d3
      obtain ⟨x, hx⟩ : ∃ x, L[n]? = some x := ⟨_, List.getElem?_eq_getElem hnl⟩
      have hxd : L.getD n ⟨#[]⟩ = x := by rw [List.getD_eq_getElem?_getD, hx]; rfl
      rw [hxd] at d3
      have hc := h5 n x hx
      have D1 := Lib.hid d1; have D2 := Lib.hid d2; have D3 := Lib.hid d3; have H5 := Lib.hid h5
      have m0 : (0 : Int) ≤ (n : Int) := by omega
      have m1 : (n : Int) < (L.length : Int) := by omega
      have m4 : (n : Int) ≤ (c : Int) := by omega
      have m5 : IntKind.i64.wrap ((L.length : Int) - 1) = (n : Int) := by
        have h : IntKind.i64.wrap ((L.length : Int) - 1) = (L.length : Int) - 1 := IntWalk.i64_in _ (by omega)
        omega
      have m6 : n ≤ c := by omega
      have m7 : ¬ (n : Int) < 0 := by omega
      have m8 : decide ((n : Int) < 0) = false := dec_false m7
      have hcl := fun (w' : World) (hb : Below w1.heap.size w1 w') => Try.slices_Clone_string g o n c L w' (by omega) (by omega) (fun j hj => (cell_below hb h4).trans (cells_getD h5 j hj))
      have HCL := Lib.hid hcl
      clear d1 d2 d3 h5 hx hxd hne hcl
      go_wp2_with fail
      have hc0 : ∀ w', Below w1.heap.size w1 w' → w'.cell? ⟨g, o + n, none⟩ = some (.string x) := fun w' hb => (cell_below hb h4).trans hc
      have HC0 := Lib.hid hc0
      go_region_held3 (fun w' => w'.cell? ⟨g, o + n, none⟩ = some (.string x) ∧ Below w1.heap.size w1 w')
        (first | exact ⟨hc, below_drewN (Below.refl _ _) 1⟩ | exact ⟨HC0.out _ hbC, hbC⟩)
        (first
          | (go_at_call 28; refine (HCL.out _ (And.right (by assumption))).mono ?_; rintro e w2 ⟨v', rfl, hown, hnn, hb2⟩; have hbC := below_call (B := w1.heap.size) (a := w1) (And.right (by assumption)) hb2 (Nat.le_refl _)))
      have hlen : (L.take n).length = n := by rw [List.length_take]; omega
      have hst := StrsAt.own (l := L.take n) (by rw [hlen]; exact hown)
      have hbZ := below_call hb hbC (Nat.le_refl _)
      clear hown hb2 hbC hb hnn
      go_wp2_with fail
      go_ret3
      exact ⟨v', by rw [D1.out, D3.out]; rfl, by rw [D2.out]; exact hst, hbZ⟩
  · obtain ⟨d1, d2, d3⟩ := HDE.out _ rfl h0
    have h1 : (splitE s == 0) = false := by simpa using h0
    have D1 := Lib.hid d1; have D2 := Lib.hid d2; have D3 := Lib.hid d3
    clear d1 d2 d3 HDE HD2 HD0 h0
    generalize splitE s = q at *
    go_enter Try.func16, Try.ntmps16
    go_wp2_with fail
    refine HS.out.mono ?_
    rintro e w1 ⟨v, rfl, hst, hb⟩
    obtain ⟨a, c, rfl⟩ := hst.shape
    go_wp2_with fail
    go_ret3
    exact ⟨_, by rw [D1.out, D3.out]; rfl, by rw [D2.out]; exact .nil, hb⟩
end Go.Proofs.Ytpgeldhleikcdaa
