/- Walks of index.find, Level, Covers. -/
import Derived.Test.YtklamgijikcnaaaDoorF2
namespace Go.Proofs.YtklamgijikcnaaaDoor
open Go.RowKit

theorem findN_hit {n : Int} {L : Nat} (hn : n < 0) (h1 : 1 ≤ L) (h3 : L ≤ 3) (hno : ∀ j, 1 ≤ j → j < L → hitN n j = false) (hh : hitN n L = true) : findN n = some (L, -(n + L - 1)) := by
  unfold findN
  rw [if_neg (by omega)]
  have : L = 1 ∨ L = 2 ∨ L = 3 := by omega
  rcases this with rfl | rfl | rfl
  · rw [if_pos hh]; congr 2; omega
  · rw [if_neg (by rw [hno 1 (by omega) (by omega)]; simp), if_pos hh]; congr 2; omega
  · rw [if_neg (by rw [hno 1 (by omega) (by omega)]; simp), if_neg (by rw [hno 2 (by omega) (by omega)]; simp), if_pos hh]; congr 2; omega
theorem findN_miss {n : Int} (hn : n < 0) (hno : ∀ j, 1 ≤ j → j < 4 → hitN n j = false) : findN n = none := by
  unfold findN
  rw [if_neg (by omega), if_neg (by rw [hno 1 (by omega) (by omega)]; simp), if_neg (by rw [hno 2 (by omega) (by omega)]; simp), if_neg (by rw [hno 3 (by omega) (by omega)]; simp)]
theorem hit_out {n : Int} {L : Nat} (h : -(n + L - 1) < 0 ∨ 600 ≤ -(n + L - 1)) : hitN n L = false := by
  unfold hitN
  rcases h with h | h
  · rw [dec_false (by omega)]; rfl
  · rw [dec_false (p := -(n + L - 1) < 600) (by omega)]; simp
theorem hit_low {n : Int} {L : Nat} (h : ¬ L ≤ rootN (-(n + L - 1))) : hitN n L = false := by
  unfold hitN
  rw [dec_false h]; simp
theorem hit_odd {n : Int} {L : Nat} (h : ¬ (-(n + L - 1) - spanN (rootN (-(n + L - 1)))) % wideN L = 0) : hitN n L = false := by
  unfold hitN
  rw [dec_false h]; simp
theorem hit_yes {n : Int} {L : Nat} (h0 : 0 ≤ -(n + L - 1)) (h1 : -(n + L - 1) < 600) (h2 : L ≤ rootN (-(n + L - 1))) (h3 : (-(n + L - 1) - spanN (rootN (-(n + L - 1)))) % wideN L = 0) : hitN n L = true := by
  unfold hitN
  rw [dec_true h0, dec_true h1, dec_true h2, dec_true h3]; rfl
theorem spanN_root (f : Int) (h0 : 0 ≤ f) : 0 ≤ spanN (rootN f) ∧ spanN (rootN f) ≤ f := by
  unfold rootN
  split
  · exact ⟨by decide, by simpa [spanN] using h0⟩
  · split
    · simp only [spanN]; omega
    · split <;> simp only [spanN] <;> omega
theorem mod_facts {a : Int} {l : Nat} (h0 : 0 ≤ a) : a.tmod (wideN l) = a % wideN l := Int.tmod_eq_emod_of_nonneg h0
/-- What find answers. -/
def FindRes (n : Int) (w : World) (e : Ending) (w' : World) : Prop :=
  ∃ a b : Int, e = .returned (.tuple #[.int .i64 a, .int .i64 b, .bool (findN n).isSome]) ∧ (∀ l f, findN n = some (l, f) → a = l ∧ b = f) ∧ ∃ k, w' = w.drewN k
theorem FindRes.some {n : Int} {w w' : World} {L : Nat} {f : Int} (h : findN n = some (L, f)) (hw : ∃ k, w' = w.drewN k) : FindRes n w (.returned (.tuple #[.int .i64 L, .int .i64 f, .bool true])) w' :=
  ⟨L, f, by rw [h]; rfl, fun l f' e => by rw [h] at e; injection e with e; injection e with e1 e2; subst e1; subst e2; exact ⟨rfl, rfl⟩, hw⟩
theorem FindRes.none {n : Int} {w w' : World} {a b : Int} (h : findN n = none) (hw : ∃ k, w' = w.drewN k) : FindRes n w (.returned (.tuple #[.int .i64 a, .int .i64 b, .bool false])) w' :=
  ⟨a, b, by rw [h]; rfl, fun l f' e => (by rw [h] at e; cases e), hw⟩
set_option maxHeartbeats 2000000 in
theorem find_any (n : Int) (h0 : -100000 ≤ n) (h1 : n ≤ 100000) {w : World} (S : SpanAt w) :
    Calls Tryd.prog 50 #[.int .i64 n] w (FindRes n w) := by
  by_cases hp : 0 ≤ n
  · have hf : findN n = if n < 600 then some (0, n) else none := by unfold findN; rw [if_pos hp]
    have HF := Lib.hid hf
    clear hf
    by_cases h6 : n < 600
    · go_enter Tryd.func50, Tryd.ntmps50
      go_wp2_with fail
      refine bodyPost_ret (v := .tuple #[.int .i64 0, .int .i64 n, .bool true]) (by simp [results, Tryd.results50, go_sem]) rfl ?_
      exact FindRes.some (L := 0) (by rw [HF.out, if_pos h6]) ⟨0, rfl⟩
    · go_enter Tryd.func50, Tryd.ntmps50
      go_wp2_with fail
      refine bodyPost_ret (v := .tuple #[.int .i64 0, .int .i64 n, .bool false]) (by simp [results, Tryd.results50, go_sem]) rfl ?_
      exact FindRes.none (by rw [HF.out, if_neg (by omega)]) ⟨0, rfl⟩
  · have SP := Lib.hid S; clear S
    go_enter Tryd.func50, Tryd.ntmps50
    go_wp2_with fail
    go_loopw [5] (fun i wr => ∃ L : Nat, 1 ≤ L ∧ L ≤ 4 ∧ i = .int .i64 L ∧ (∀ j, 1 ≤ j → j < L → hitN n j = false) ∧ ∃ k, wr = w.drewN k) (fun i _ => 4 - (RowKit.intOf i).toNat)
    case atStart => exact ⟨1, by omega, by omega, rfl, fun j a b => by omega, 0, rfl⟩
    case round =>
      obtain ⟨L, hL1, hL4, rfl, hno, hdr⟩ := hrel
      have HNO := Lib.hid hno; clear hno
      have SPr : Hid (SpanAt wr) := Lib.hid (by obtain ⟨k, hk⟩ := hdr; rw [hk]; exact SP.out.drewN k)
      have hstep : hitN n L = false → ∀ j, 1 ≤ j → j < L + 1 → hitN n j = false := fun h j a b => by
        by_cases e : j = L
        · rw [e]; exact h
        · exact HNO.out j a (by omega)
      have HS := Lib.hid hstep; clear hstep
      have hdq : ∀ q, ∃ k, wr.drewN q = w.drewN k := fun q => by obtain ⟨k, hk⟩ := hdr; rw [hk]; exact ⟨_, by rw [World.drewN_drewN]⟩
      have HD := Lib.hid hdr; have HDQ := Lib.hid hdq; clear hdr hdq
      by_cases hL : L ≤ 3
      · by_cases hr1 : -(n + (L : Int) - 1) < 0
        · have hh := Lib.hid (hit_out (n := n) (L := L) (.inl hr1))
          go_wp2_with fail
          go_roundw
          case rel => exact ⟨L + 1, by omega, by omega, by go_num, HS.out hh.out, HD.out⟩
          case measure => simp [RowKit.intOf]; omega
        · by_cases hr2 : 600 ≤ -(n + (L : Int) - 1)
          · have hh := Lib.hid (hit_out (n := n) (L := L) (.inr hr2))
            go_wp2_with fail
            go_roundw
            case rel => exact ⟨L + 1, by omega, by omega, by go_num, HS.out hh.out, HD.out⟩
            case measure => simp [RowKit.intOf]; omega
          · have hR := Lib.hid (rootOf_any (-(n + (L : Int) - 1)) (by omega) (by omega) SPr.out)
            have hk3 := rootN_le (-(n + (L : Int) - 1))
            have hcell := SPr.out.c (rootN (-(n + (L : Int) - 1))) (by omega)
            obtain ⟨hs0, hs1⟩ := spanN_root (-(n + (L : Int) - 1)) (by omega)
            have hW := Lib.hid (fun w => wide_any L hL w)
            obtain ⟨hw0, hw1⟩ := wideN_bd L
            have hk5 : ((rootN (-(n + (L : Int) - 1)) : Nat) : Int) < 5 := by omega
            have hk0 : 0 ≤ ((rootN (-(n + (L : Int) - 1)) : Nat) : Int) := by omega
            by_cases hlow : L ≤ rootN (-(n + (L : Int) - 1))
            · by_cases hodd : (-(n + (L : Int) - 1) - spanN (rootN (-(n + (L : Int) - 1)))) % wideN L = 0
              · have hh := Lib.hid (hit_yes (n := n) (L := L) (by omega) (by omega) hlow hodd)
                have hlb : decide ((L : Int) ≤ (rootN (-(n + (L : Int) - 1)) : Int)) = true := by simpa using hlow
                have s1 : IntKind.i64.wrap (-(n + (L : Int) - 1) - spanN (rootN (-(n + (L : Int) - 1)))) = -(n + (L : Int) - 1) - spanN (rootN (-(n + (L : Int) - 1))) := IntWalk.i64_in _ (by omega)
                have s2 : ((-(n + (L : Int) - 1) - spanN (rootN (-(n + (L : Int) - 1)))) % (wideN L) == 0) = true := by rw [beq_iff_eq]; exact hodd
                have s3 : (wideN L == 0) = false := by rw [beq_eq_false_iff_ne]; omega
                have hodd' := Lib.hid hodd; clear hodd
                go_wp2_with fail
                refine hR.out.mono ?_
                rintro e w1 ⟨rfl, rfl⟩
                go_wp2_with fail
                go_quiet ((go_at_call 68; exact Calls.quiet_of_same (hW.out _)))
                clear s1 s2 s3 hcell
                go_wp2_with fail
                refine bodyPost_ret (v := .tuple #[.int .i64 L, .int .i64 (-(n + (L : Int) - 1)), .bool true]) (by simp [results, Tryd.results50, go_sem]) rfl ?_
                exact FindRes.some (findN_hit (by omega) hL1 hL (fun j a b => HNO.out j a b) hh.out) (HDQ.out _)
              · have hh := Lib.hid (hit_odd (n := n) (L := L) hodd)
                have hlb : decide ((L : Int) ≤ (rootN (-(n + (L : Int) - 1)) : Int)) = true := by simpa using hlow
                have s1 : IntKind.i64.wrap (-(n + (L : Int) - 1) - spanN (rootN (-(n + (L : Int) - 1)))) = -(n + (L : Int) - 1) - spanN (rootN (-(n + (L : Int) - 1))) := IntWalk.i64_in _ (by omega)
                have s2 : ((-(n + (L : Int) - 1) - spanN (rootN (-(n + (L : Int) - 1)))) % (wideN L) == 0) = false := by rw [beq_eq_false_iff_ne]; exact hodd
                have s3 : (wideN L == 0) = false := by rw [beq_eq_false_iff_ne]; omega
                have hodd' := Lib.hid hodd; clear hodd
                go_wp2_with fail
                refine hR.out.mono ?_
                rintro e w1 ⟨rfl, rfl⟩
                go_wp2_with fail
                go_quiet ((go_at_call 68; exact Calls.quiet_of_same (hW.out _)))
                clear s1 s2 s3 hcell
                go_wp2_with fail
                go_roundw
                case rel => exact ⟨L + 1, by omega, by omega, by go_num, HS.out hh.out, HDQ.out _⟩
                case measure => simp [RowKit.intOf]; omega
            · have hh := Lib.hid (hit_low (n := n) (L := L) hlow)
              have hlb : decide ((L : Int) ≤ (rootN (-(n + (L : Int) - 1)) : Int)) = false := by simpa using hlow
              go_wp2_with fail
              refine hR.out.mono ?_
              rintro e w1 ⟨rfl, rfl⟩
              go_wp2_with fail
              go_quiet (fail)
              go_wp2_with fail
              go_roundw
              case rel => exact ⟨L + 1, by omega, by omega, by go_num, HS.out hh.out, HDQ.out _⟩
              case measure => simp [RowKit.intOf]; omega
      · go_wp2_with fail
        refine bodyPost_ret (v := .tuple #[.int .i64 0, .int .i64 0, .bool false]) (by simp [results, Tryd.results50, go_sem]) rfl ?_
        exact FindRes.none (findN_miss (by omega) (fun j a b => HNO.out j a (by omega))) HD.out
end Go.Proofs.YtklamgijikcnaaaDoor
