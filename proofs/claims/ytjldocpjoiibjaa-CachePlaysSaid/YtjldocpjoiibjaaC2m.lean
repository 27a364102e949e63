/- The queue's methods as an interface value's calls find them. -/
import Derived.Test.YtjldocpjoiibjaaC2
namespace Go.Proofs.Ytjldocpjoiibjaa
open Go.RowKit

theorem m_val {nm : String} {f : Nat} (hfind : (Try.prog.info? 76).bind (fun i => (i.methods.find? (·.name == nm)).map fun m => (m.path.toList, m.path.isEmpty, m.func)) = some ([], true, some (f, false)))
    {w : World} {cb o : Nat} {v : Value} (hc : w.cell? ⟨cb, o, none⟩ = some v) : (method 250 76 (.pointer (some ⟨cb, o, none⟩)) nm).run Try.prog w = .ok (f, v) w := by
  cases hI : Try.prog.info? 76 with
  | none => rw [hI] at hfind; cases hfind
  | some I =>
    rw [hI] at hfind
    cases hm : I.methods.find? (·.name == nm) with
    | none => simp [hm] at hfind
    | some m =>
      simp [hm] at hfind
      obtain ⟨h1, h2⟩ := hfind
      have hl : (loadVar 67 ⟨cb, o, none⟩).run Try.prog w = .ok v w := by
        go_simp
      have hw : ∀ n : String, (Builtin.ssaWrapNilChk_ #[76] 76 #[.pointer (some ⟨cb, o, none⟩), strVal "", strVal n]).run Try.prog w = .ok (.pointer (some ⟨cb, o, none⟩)) w := fun _ => rfl
      unfold method
      simp [typeInfo, run_program, hI, hm, follow, h1, h2, receiverAt, run_underlying Try.underlying76, Place.get, hw, asAddr, hl, Result.andThen]
theorem m_len {w : World} {cb : Nat} {v : Value} (hc : w.cell? ⟨cb, 2, none⟩ = some v) : (method 250 76 (.pointer (some ⟨cb, 2, none⟩)) "Len").run Try.prog w = .ok (46, v) w := m_val (by kernel_rfl) hc
theorem m_less {w : World} {cb : Nat} {v : Value} (hc : w.cell? ⟨cb, 2, none⟩ = some v) : (method 250 76 (.pointer (some ⟨cb, 2, none⟩)) "Less").run Try.prog w = .ok (101, v) w := m_val (by kernel_rfl) hc
theorem m_swap {w : World} {cb : Nat} {v : Value} (hc : w.cell? ⟨cb, 2, none⟩ = some v) : (method 250 76 (.pointer (some ⟨cb, 2, none⟩)) "Swap").run Try.prog w = .ok (102, v) w := m_val (by kernel_rfl) hc
theorem m_push (cb : Nat) (w : World) : (method 250 76 (.pointer (some ⟨cb, 2, none⟩)) "Push").run Try.prog w = .ok (104, .pointer (some ⟨cb, 2, none⟩)) w := by kernel_rfl
theorem m_pop (cb : Nat) (w : World) : (method 250 76 (.pointer (some ⟨cb, 2, none⟩)) "Pop").run Try.prog w = .ok (103, .pointer (some ⟨cb, 2, none⟩)) w := by kernel_rfl
theorem cf_len (args : Array Value) (w : World) : (callFunc 46 args).run Try.prog w = .ok (.enter 46 args) w := enters_of Try.func46 (by kernel_rfl) rfl args w
theorem cf_less (args : Array Value) (w : World) : (callFunc 101 args).run Try.prog w = .ok (.enter 101 args) w := enters_of Try.func101 (by kernel_rfl) rfl args w
theorem cf_swap (args : Array Value) (w : World) : (callFunc 102 args).run Try.prog w = .ok (.enter 102 args) w := enters_of Try.func102 (by kernel_rfl) rfl args w
theorem cf_push (args : Array Value) (w : World) : (callFunc 104 args).run Try.prog w = .ok (.enter 104 args) w := enters_of Try.func104 (by kernel_rfl) rfl args w
theorem cf_pop (args : Array Value) (w : World) : (callFunc 103 args).run Try.prog w = .ok (.enter 103 args) w := enters_of Try.func103 (by kernel_rfl) rfl args w
end Go.Proofs.Ytjldocpjoiibjaa
