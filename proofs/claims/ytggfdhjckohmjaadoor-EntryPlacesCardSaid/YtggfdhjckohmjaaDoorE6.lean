/- Walks of entry.Name and marlref07.Name: both are nameE, a plain function. No condition but that the text is in the form's reach. -/
import Derived.Test.YtggfdhjckohmjaaDoorE5
namespace Go.Proofs.YtggfdhjckohmjaaDoor
open Go.RowKit

/-- What is wrong with a name: 36 it is too long, 22 it is none, 0 nothing. -/
def nameE (l : List UInt8) : Int := if 14 < l.length then 36 else if (l.isEmpty || l == [46] || l == [46, 46] || hasBad l) then 22 else 0

theorem entryName_any (s : ByteArray) (hs : s.size ≤ 140737488355328) (w : World) :
    Calls Tryd.prog 20 #[.string s] w fun e w' => e = .returned (.int .i64 (nameE s.data.toList)) ∧ Below w.heap.size w w' := by
  have hl := Lib.size_eq s
  obtain ⟨r, hr⟩ : ∃ r, r = nameE s.data.toList := ⟨_, rfl⟩
  rw [← hr]
  unfold nameE at hr
  by_cases h14 : 14 < s.size
  · rw [if_pos (by omega)] at hr
    have HR := Lib.hid hr; clear hr
    clear hl
    go_enter Tryd.func20, Tryd.ntmps20
    go_wp2_with fail
    go_ret
    exact ⟨by rw [HR.out]; rfl, Below.refl _ _⟩
  · rw [if_neg (by omega)] at hr
    have hc := containsAny_any s (by omega) w
    have HC := Lib.hid hc
    clear hc hl
    have ht := ByteArray.toList_eq s
    rw [← ht] at hr
    have HR := Lib.hid hr; clear hr ht
    cases e1 : s.toList.isEmpty
    · cases e2 : (s.toList == [46])
      · cases e3 : (s.toList == [46, 46])
        · have E1 := Lib.hid e1; have E2 := Lib.hid e2; have E3 := Lib.hid e3
          go_enter Tryd.func20, Tryd.ntmps20
          go_wp2_with fail
          refine HC.out.mono ?_
          rintro e w' ⟨rfl, hb⟩
          have hbt : s.toList = s.data.toList := ByteArray.toList_eq s
          rw [← hbt]
          cases hbad : hasBad s.toList
          all_goals
            have HB := Lib.hid hbad; clear hbad hbt
            go_wp2_with fail
            go_ret
            exact ⟨by rw [HR.out, E1.out, E2.out, E3.out, HB.out]; rfl, hb⟩
        · have hne : s.toList ≠ [] := by rw [eq_of_beq e3]; simp
          have E1 := Lib.hid e1; have E2 := Lib.hid e2; have E3 := Lib.hid e3
          clear hne
          go_enter Tryd.func20, Tryd.ntmps20
          go_wp2_with fail
          go_ret
          exact ⟨by rw [HR.out, E1.out, E2.out, E3.out]; simp, Below.refl _ _⟩
      · have E1 := Lib.hid e1; have E2 := Lib.hid e2
        go_enter Tryd.func20, Tryd.ntmps20
        go_wp2_with fail
        go_ret
        exact ⟨by rw [HR.out, E1.out, E2.out]; simp, Below.refl _ _⟩
    · have E1 := Lib.hid e1
      go_enter Tryd.func20, Tryd.ntmps20
      go_wp2_with fail
      go_ret
      exact ⟨by rw [HR.out, E1.out]; simp, Below.refl _ _⟩

theorem refName_any (s : ByteArray) (hs : s.size ≤ 140737488355328) (w : World) :
    Calls Tryd.prog 21 #[.string s] w fun e w' => e = .returned (.int .i64 (nameE s.data.toList)) ∧ w' = w := by
  have hl := Lib.size_eq s
  obtain ⟨r, hr⟩ : ∃ r, r = nameE s.data.toList := ⟨_, rfl⟩
  rw [← hr]
  unfold nameE at hr
  by_cases h14 : 14 < s.size
  · rw [if_pos (by omega)] at hr
    have HR := Lib.hid hr; clear hr
    clear hl
    go_enter Tryd.func21, Tryd.ntmps21
    go_wp2_with fail
    go_ret
    exact ⟨by rw [HR.out]; rfl, rfl⟩
  · rw [if_neg (by omega)] at hr
    have HL := Lib.hid hl; clear hl
    have ht := ByteArray.toList_eq s
    rw [← ht] at hr
    have HR := Lib.hid hr; clear hr
    have HT := Lib.hid ht; clear ht
    cases e1 : s.toList.isEmpty
    · cases e2 : (s.toList == [46])
      · cases e3 : (s.toList == [46, 46])
        · have E1 := Lib.hid e1; have E2 := Lib.hid e2; have E3 := Lib.hid e3
          go_enter Tryd.func21, Tryd.ntmps21
          go_wp2_with fail
          clear e1 e2 e3
          go_loop [3] (fun i => ∃ k : Nat, k ≤ s.size ∧ i = .int .i64 k ∧ NoBad s.data.toList k) (fun i => s.size - (intOf i).toNat)
          case atStart => exact ⟨0, Nat.zero_le _, rfl, fun j x hj => by omega⟩
          case round =>
            obtain ⟨k, hk, rfl, hno⟩ := hrel
            by_cases hlt : k < s.size
            · have hxl : s.data.toList[k]? = some s[k] := Lib.data_getElem? s k hlt
              have HX := Lib.hid hxl; clear hxl
              have HN := Lib.hid hno; clear hno
              have b0 : (((s[k].toNat : Nat) : Int) == 0) = (s[k] == 0) := by
                rw [Bool.eq_iff_iff, beq_iff_eq, beq_iff_eq, ← UInt8.toNat_inj]; show _ ↔ s[k].toNat = 0; omega
              have b1 : (((s[k].toNat : Nat) : Int) == 47) = (s[k] == 47) := by
                rw [Bool.eq_iff_iff, beq_iff_eq, beq_iff_eq, ← UInt8.toNat_inj]; show _ ↔ s[k].toNat = 47; omega
              cases z0 : (s[k] == 0)
              · cases z1 : (s[k] == 47)
                · rw [z0] at b0
                  rw [z1] at b1
                  have Z0 := Lib.hid z0; have Z1 := Lib.hid z1
                  clear z0 z1
                  go_wp2_with fail
                  go_round
                  case rel =>
                    refine ⟨k + 1, by omega, by go_num, fun j y hj hy => ?_⟩
                    by_cases hji : j = k
                    · subst hji; rw [HX.out] at hy; cases hy; rw [Z0.out, Z1.out]; rfl
                    · exact HN.out j y (by omega) hy
                  case measure => simp [intOf]; omega
                · have hh := hasBad_at HX.out (by rw [z0, z1]; rfl)
                  rw [← HT.out] at hh
                  rw [z0] at b0
                  rw [z1] at b1
                  have HH := Lib.hid hh
                  clear z0 z1 hh
                  go_wp2_with fail
                  go_ret
                  exact ⟨by rw [HR.out, HH.out]; simp, rfl⟩
              · have hh := hasBad_at HX.out (by rw [z0]; simp)
                rw [← HT.out] at hh
                rw [z0] at b0
                have HH := Lib.hid hh
                clear z0 hh b1
                go_wp2_with fail
                go_ret
                exact ⟨by rw [HR.out, HH.out]; simp, rfl⟩
            · obtain rfl : k = s.size := by omega
              have hnb := NoBad.all (by rw [← HL.out]; exact hno)
              rw [← HT.out] at hnb
              have HN := Lib.hid hnb
              clear hnb hno
              go_wp2_with fail
              go_ret
              exact ⟨by rw [HR.out, E1.out, E2.out, E3.out, HN.out]; rfl, rfl⟩
        · have E1 := Lib.hid e1; have E2 := Lib.hid e2; have E3 := Lib.hid e3
          go_enter Tryd.func21, Tryd.ntmps21
          go_wp2_with fail
          go_ret
          exact ⟨by rw [HR.out, E1.out, E2.out, E3.out]; simp, rfl⟩
      · have E1 := Lib.hid e1; have E2 := Lib.hid e2
        go_enter Tryd.func21, Tryd.ntmps21
        go_wp2_with fail
        go_ret
        exact ⟨by rw [HR.out, E1.out, E2.out]; simp, rfl⟩
    · have E1 := Lib.hid e1
      go_enter Tryd.func21, Tryd.ntmps21
      go_wp2_with fail
      go_ret
      exact ⟨by rw [HR.out, E1.out]; simp, rfl⟩
end Go.Proofs.YtggfdhjckohmjaaDoor
