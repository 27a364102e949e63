/- The memory of a move: an entry is deleted, another one is put. -/
import Derived.Test.YtoofcnehoffllaaGreatT45
import Derived.LaidEqlPtr
namespace Go.Proofs.YtoofcnehoffllaaGreat
open Go.RowKit

section
variable {w w' : World} {tb nb cap : Nat} {P E : Nat → Option Nat} {V : Nat → Value} {M : TM}
theorem move_del (H : TIn w tb nb cap P E V M) {f n : Nat} {last : ByteArray} (hs : entN M f last = some n) :
    ∃ bf ef, ∃ nd : Nd, P f = some bf ∧ w.heap[bf]? = some (.cells #[.int .i64 f, .map (some ef), V f, .int .i64 nd.links] 71 (0, 0)) ∧ E f = some ef ∧ (∃ es c, w.heap[ef]? = some (.map es c)) ∧
    ∃ w2, (∀ ty, (Builtin.delete_ #[69, 9] ty #[.map (some ef), .string last]).run Tryz.prog w.drew = .ok (.tuple #[]) w2) ∧ TIn w2 tb nb cap P E V (setE M f (updE (entN M f) last none)) ∧ Fr (fun x => x = ef) w w2 := by
  have hd := ent_dir hs
  obtain ⟨nd, g, hm, hg⟩ := isDir_there hd
  obtain ⟨ef, hE, hMp⟩ : ∃ pe, E f = some pe ∧ MapIs Value.string w pe (entF P g) := by
    have := H.ents f nd hm
    rw [hg] at this; exact this
  obtain ⟨bf, hbf, _⟩ := H.at_ hm
  have hb := H.node f bf nd hbf hm
  rw [hE] at hb
  obtain ⟨w2, hdel, hM2, hf2⟩ := (hMp.same (w' := w.drew) rfl).del klS Tryz.underlying69 last
  have hf12 : Fr (fun x => x = ef) w w2 := ((Fr.refl _ w).drew).trans hf2
  rw [← entF_del] at hM2
  rw [ent_fun hm hg]
  obtain ⟨es, c, hes, _⟩ := hMp
  exact ⟨bf, ef, nd, hbf, hb, hE, ⟨es, c, hes⟩, w2, hdel, H.mapset hm hg hE hM2 (fun t j ht => by
    unfold updE at ht
    split at ht
    · cases ht
    · exact H.ok.ent f t j (by rw [ent_fun hm hg]; exact ht)) hf12, hf12⟩
theorem move_put (H : TIn w tb nb cap P E V M) {p n bn : Nat} {en : ByteArray} (hp : isDir M p = true) (hn : (M n).isSome = true) (hbn : P n = some bn) :
    ∃ bp ep, ∃ nd : Nd, P p = some bp ∧ w.heap[bp]? = some (.cells #[.int .i64 p, .map (some ep), V p, .int .i64 nd.links] 71 (0, 0)) ∧ E p = some ep ∧
    ∃ w2, (Instr.mapUpdate 69 (.map (some ep)) (.string en) (.pointer (some ⟨bn, 0, none⟩))).run Tryz.prog w = .ok () w2 ∧ TIn w2 tb nb cap P E V (setE M p (updE (entN M p) en (some n))) ∧ Fr (fun x => x = ep) w w2 := by
  obtain ⟨nd, g, hm, hg⟩ := isDir_there hp
  obtain ⟨ep, hE, hMp⟩ : ∃ pe, E p = some pe ∧ MapIs Value.string w pe (entF P g) := by
    have := H.ents p nd hm
    rw [hg] at this; exact this
  obtain ⟨bp, hbp, _⟩ := H.at_ hm
  have hb := H.node p bp nd hbp hm
  rw [hE] at hb
  obtain ⟨w2, hput, hM2, hf12⟩ := hMp.put klS Tryz.underlying69 en (.pointer (some ⟨bn, 0, none⟩))
  rw [show (Value.pointer (some ⟨bn, 0, none⟩)) = nptr (P n) by rw [hbn]; rfl, ← entF_set] at hM2
  rw [ent_fun hm hg]
  refine ⟨bp, ep, nd, hbp, hb, hE, w2, hput, H.mapset hm hg hE hM2 (fun t j ht => ?_) hf12, hf12⟩
  unfold updE at ht
  split at ht
  · have ht : n = j := Option.some.inj ht
    exact ht ▸ hn
  · exact H.ok.ent p t j (by rw [ent_fun hm hg]; exact ht)
theorem node_info : (Tryz.prog.info? 71).map (fun j => j.size != 0) = some true := by kernel_rfl
end
end Go.Proofs.YtoofcnehoffllaaGreat
