/- Walks of file's Get, Has, Set. -/
import Derived.Test.YtklamgijikcnaaaDoorF13
namespace Go.Proofs.YtklamgijikcnaaaDoor
open Go.RowKit

section
variable {w : World} {fb : Nat} {d : Int → Int} {m : MM} {F : Nat → Prop}
theorem get_any (hF : FAt w fb d m F) (hI : Inv d m) (n : Int) :
    Calls Tryd.prog 16 #[.pointer (some ⟨fb, 0, none⟩), .int .i64 n] w fun e w' => e = .returned (.int .i64 (adr d m n)) ∧ w' = w := by
  obtain ⟨db, mb, P, hin, _⟩ := hF.ex
  have c0 := cell_blk_some hin.top (i := 0) rfl
  have c1 := cell_blk_some hin.top (i := 1) rfl
  have lkm := hin.lookM n
  have lkd := hin.lookD n
  have HI := Lib.hid hI
  cases hm : m n with
  | some v =>
    obtain ⟨a, u⟩ := v
    obtain ⟨b, hpb, hbb⟩ := hin.at hm
    rw [hpb] at lkm
    have d0 := cell_blk_some hbb (i := 0) rfl
    have hneg := (metasN_neg n (HI.out.j.dom n _ hm)).1
    have hr : adr d m n = a := by rw [adr_meta hneg]; unfold adrM; rw [hm]; rfl
    rw [hr]
    clear hm hF hin hpb hbb hr hI
    go_enter Tryd.func16, Tryd.ntmps16
    go_wp2_with fail
    go_ret
    exact ⟨rfl, rfl⟩
  | none =>
    rw [hin.gone hm] at lkm
    have hr : adr d m n = d n := by
      by_cases h0 : 0 ≤ n
      · exact adr_data h0
      · rw [adr_meta (by omega), HI.out.neg (by omega)]; unfold adrM; rw [hm]; rfl
    rw [hr]
    clear hm hF hin hr hI
    go_enter Tryd.func16, Tryd.ntmps16
    go_wp2_with fail
    go_ret
    exact ⟨rfl, rfl⟩
theorem has_any (hF : FAt w fb d m F) (n : Int) :
    Calls Tryd.prog 17 #[.pointer (some ⟨fb, 0, none⟩), .int .i64 n] w fun e w' => e = .returned (.bool (hasB d m n)) ∧ w' = w := by
  obtain ⟨db, mb, P, hin, _⟩ := hF.ex
  have c0 := cell_blk_some hin.top (i := 0) rfl
  have c1 := cell_blk_some hin.top (i := 1) rfl
  have lkm := hin.lookM n
  have lkd := hin.lookD n
  by_cases hd : d n = 0
  · have q : (d n != 0) = false := by simp [hd]
    have q2 : (d n == 0) = true := by simp [hd]
    cases hm : m n with
    | some v =>
      obtain ⟨a, u⟩ := v
      obtain ⟨b, hpb, hbb⟩ := hin.at hm
      rw [hpb] at lkm
      have hr : hasB d m n = true := by unfold hasB; rw [hm]; simp
      rw [hr]
      clear hm hF hin hpb hbb hr hd
      go_enter Tryd.func17, Tryd.ntmps17
      go_wp2_with fail
      go_ret
      exact ⟨rfl, rfl⟩
    | none =>
      rw [hin.gone hm] at lkm
      have hr : hasB d m n = false := by unfold hasB; rw [hm, hd]; simp
      rw [hr]
      clear hm hF hin hr hd
      go_enter Tryd.func17, Tryd.ntmps17
      go_wp2_with fail
      go_ret
      exact ⟨rfl, rfl⟩
  · have q : (d n != 0) = true := by simp [hd]
    have q2 : (d n == 0) = false := by simp [hd]
    have hr : hasB d m n = true := by unfold hasB; simp [hd]
    rw [hr]
    clear hF hin hr hd lkm
    go_enter Tryd.func17, Tryd.ntmps17
    go_wp2_with fail
    go_ret
    exact ⟨rfl, rfl⟩
end
end Go.Proofs.YtklamgijikcnaaaDoor
