/- Plain laws of CacheKeeps: which keys are dirty, with which bytes; how often each is pinned. -/
import Derived.Test.YtjldocpjoiibjaaC44
namespace Go.Proofs.Ytjldocpjoiibjaa
open Go.RowKit

/-- f is a of each buffer's, and d of a key that has none. -/
structure Att {α : Type} (a : Pb → α) (d : α) (P : List Pb) (f : Int × Int → α) : Prop where
  at_ : ∀ b ∈ P, f b.k = a b
  off : ∀ k, (∀ b ∈ P, b.k ≠ k) → f k = d
section
variable {α : Type} {a : Pb → α} {d : α} {P P' A B : List Pb} {b b' : Pb} {f f' : Int × Int → α}
theorem Att.perm (h : Att a d P f) (hp : P'.Perm P) : Att a d P' f :=
  ⟨fun b hb => h.at_ b (hp.mem_iff.1 hb), fun k hk => h.off k fun b hb => hk b (hp.mem_iff.2 hb)⟩
theorem Att.mid (h : Att a d (A ++ b :: B) f) (hap : ∀ x ∈ A ++ B, x.k ≠ b.k) (hk : b'.k = b.k) (hf : ∀ k, k ≠ b.k → f' k = f k) (hb : f' b.k = a b') : Att a d (A ++ b' :: B) f' := by
  refine ⟨fun x hx => ?_, fun k hx => ?_⟩
  · rcases List.mem_append.1 hx with hx | hx
    · rw [hf _ (hap x (List.mem_append_left _ hx))]; exact h.at_ x (List.mem_append_left _ hx)
    · rcases List.mem_cons.1 hx with rfl | hx
      · rw [hk]; exact hb
      · rw [hf _ (hap x (List.mem_append_right _ hx))]; exact h.at_ x (List.mem_append_right _ (List.mem_cons_of_mem _ hx))
  · have h1 : k ≠ b.k := fun e => hx b' (by simp) (hk.trans e.symm)
    rw [hf k h1]
    refine h.off k fun x hx' => ?_
    rcases List.mem_append.1 hx' with hx' | hx'
    · exact hx x (List.mem_append_left _ hx')
    · rcases List.mem_cons.1 hx' with rfl | hx'
      · exact fun e => h1 e.symm
      · exact hx x (List.mem_append_right _ (List.mem_cons_of_mem _ hx'))
theorem Att.less (h : Att a d (A ++ b :: B) f) (hap : ∀ x ∈ A ++ B, x.k ≠ b.k) (hf : ∀ k, k ≠ b.k → f' k = f k) (hb : f' b.k = d) : Att a d (A ++ B) f' := by
  refine ⟨fun x hx => ?_, fun k hx => ?_⟩
  · rw [hf _ (hap x hx)]
    refine h.at_ x ?_
    rcases List.mem_append.1 hx with hx | hx
    · exact List.mem_append_left _ hx
    · exact List.mem_append_right _ (List.mem_cons_of_mem _ hx)
  · by_cases e : k = b.k
    · rw [e]; exact hb
    · rw [hf k e]
      refine h.off k fun x hx' => ?_
      rcases List.mem_append.1 hx' with hx' | hx'
      · exact hx x (List.mem_append_left _ hx')
      · rcases List.mem_cons.1 hx' with rfl | hx'
        · exact fun e' => e e'.symm
        · exact hx x (List.mem_append_right _ hx')
theorem Att.new (h : Att a d P f) (hfr : ∀ x ∈ P, x.k ≠ b.k) (hf : ∀ k, k ≠ b.k → f' k = f k) (hb : f' b.k = a b) : Att a d (P ++ [b]) f' := by
  refine ⟨fun x hx => ?_, fun k hx => ?_⟩
  · rcases List.mem_append.1 hx with hx | hx
    · rw [hf _ (hfr x hx)]; exact h.at_ x hx
    · rw [List.mem_singleton] at hx; subst hx; exact hb
  · rw [hf k (fun e => hx b (by simp) e.symm)]
    exact h.off k fun x hx' => hx x (List.mem_append_left _ hx')
end

def aD (b : Pb) : Option (List Value) := if b.dirty then some b.data else none
abbrev AttD := Att aD none
abbrev AttN := Att Pb.pins 0
def putD {α : Type} (f : Int × Int → α) (k : Int × Int) (v : α) : Int × Int → α := fun x => if x = k then v else f x
theorem putD_at {α : Type} (f : Int × Int → α) (k : Int × Int) (v : α) : putD f k v k = v := if_pos rfl
theorem putD_off {α : Type} {f : Int × Int → α} {k x : Int × Int} {v : α} (h : x ≠ k) : putD f k v x = f x := if_neg h
structure Keep (P : List Pb) (D : Int × Int → Option (List Value)) (N : Int × Int → Int) : Prop where
  d : AttD P D
  n : AttN P N
section
variable {m p : Nat} {P P' A B : List Pb} {b : Pb} {o : Opr} {er : Int} {res : Option (List Value)} {D : Int × Int → Option (List Value)} {N : Int × Int → Int}
theorem Keep.bound (h : Keep P D N) (hg : Good m p P) (k : Int × Int) : 0 ≤ N k ∧ N k ≤ p := by
  by_cases hk : ∃ b ∈ P, b.k = k
  · obtain ⟨b, hb, rfl⟩ := hk
    rw [h.n.at_ b hb]; exact hg.pins b hb
  · rw [h.n.off k fun b hb e => hk ⟨b, hb, e⟩]; omega
theorem Step.fail (h : Step m o P P' er res) (he : er ≠ 0) : P' = P := by
  cases h <;> first | rfl | exact absurd rfl he
def putsD (D : Int × Int → Option (List Value)) (o : Opr) : Int × Int → Option (List Value) := if (D o.k).isSome = true ∨ o.dirty = true then putD D o.k (some o.bytes) else D
theorem putsD_off {x : Int × Int} (h : x ≠ o.k) : putsD D o x = D x := by
  unfold putsD
  split
  · exact putD_off h
  · rfl
theorem Step.keep1 (h : Step m o P P' er res) (hg : Good m p P) (hk : Keep P D N) (ho : o.kind = 1) (he : er = 0) : Keep P' (putsD D o) N := by
  cases h with
  | range _ _ => cases he
  | full _ _ _ _ _ => cases he
  | @old A b B _ h64 hkk =>
    have hap := hg.apart
    have hdb := hk.d.at_ b (by simp)
    refine ⟨(hk.d.mid (b' := { b with data := o.bytes, dirty := b.dirty || o.dirty }) hap rfl (fun k hne => putsD_off (by rw [← hkk]; exact hne)) ?_).perm (mid_pb _ _ _), (hk.n.mid (b' := { b with data := o.bytes, dirty := b.dirty || o.dirty }) hap rfl (fun _ _ => rfl) (hk.n.at_ b (by simp))).perm (mid_pb _ _ _)⟩
    unfold putsD aD
    rw [← hkk, hdb]
    unfold aD
    cases hbd : b.dirty <;> cases hod : o.dirty <;> simp [putD, hdb, aD, hbd]
  | new _ h64 hfr _ =>
    refine ⟨hk.d.new hfr (fun k hne => putsD_off hne) ?_, hk.n.new hfr (fun _ _ => rfl) (hk.n.off _ hfr)⟩
    unfold putsD aD
    rw [hk.d.off _ hfr]
    cases hod : o.dirty <;> simp [putD, hk.d.off _ hfr]
  | @evict A b B _ h64 hfr _ _ hb =>
    have hap := hg.apart
    unfold Pb.stuck at hb
    rw [Bool.or_eq_false_iff] at hb
    have hp := hg.pins b (by simp)
    have hp0 : b.pins = 0 := by have := of_decide_eq_false hb.2; omega
    have k1 : AttD (A ++ B) D := hk.d.less hap (fun _ _ => rfl) (by rw [hk.d.at_ b (by simp)]; unfold aD; rw [hb.1]; rfl)
    have k2 : AttN (A ++ B) N := hk.n.less hap (fun _ _ => rfl) (by rw [hk.n.at_ b (by simp)]; exact hp0)
    have hfr2 : ∀ x ∈ A ++ B, x.k ≠ o.k := fun x hx => hfr x (by simp at hx ⊢; rcases hx with hx | hx <;> simp [hx])
    refine ⟨k1.new hfr2 (fun k hne => putsD_off hne) ?_, k2.new hfr2 (fun _ _ => rfl) (k2.off _ hfr2)⟩
    unfold putsD aD
    rw [k1.off _ hfr2]
    cases hod : o.dirty <;> simp [putD, k1.off _ hfr2]
  | other h1 _ _ _ _ _ => exact absurd ho h1
  | _ => first | (rename_i h1 _; rw [ho] at h1; simp at h1) | (rename_i h1 _ _; rw [ho] at h1; simp at h1)
theorem Step.keep2 (h : Step m o P P' er res) (hk : Keep P D N) (ho : o.kind = 2) : Keep P' D N := by
  cases h with
  | got _ _ => exact ⟨hk.d.perm (mid_pb _ _ _), hk.n.perm (mid_pb _ _ _)⟩
  | gone _ _ => exact hk
  | other _ h2 _ _ _ _ => exact absurd ho h2
  | _ => first | (rename_i h1 _; rw [ho] at h1; simp at h1) | (rename_i h1 _ _; rw [ho] at h1; simp at h1) | (rename_i h1 _ _ _; rw [ho] at h1; simp at h1) | (rename_i h1 _ _ _ _ _; rw [ho] at h1; simp at h1) | (rename_i h1 _ _ _ _; rw [ho] at h1; simp at h1)
theorem Step.keep3 (h : Step m o P P' er res) (hg : Good m p P) (hk : Keep P D N) (ho : o.kind = 3) (he : er = 0) : Keep P' (putD D o.k none) N := by
  cases h with
  | @clean A b B _ hkk => exact ⟨hk.d.mid hg.apart rfl (fun k hne => putD_off (by rw [← hkk]; exact hne)) (by rw [hkk, putD_at]; rfl), hk.n.mid hg.apart rfl (fun _ _ => rfl) (hk.n.at_ b (by simp))⟩
  | miss _ _ => cases he
  | other _ _ h3 _ _ _ => exact absurd ho h3
  | _ => first | (rename_i h1 _; rw [ho] at h1; simp at h1) | (rename_i h1 _ _; rw [ho] at h1; simp at h1) | (rename_i h1 _ _ _; rw [ho] at h1; simp at h1) | (rename_i h1 _ _ _ _ _; rw [ho] at h1; simp at h1) | (rename_i h1 _ _ _ _; rw [ho] at h1; simp at h1)
theorem Step.keep4 (h : Step m o P P' er res) (hg : Good m p P) (hk : Keep P D N) (ho : o.kind = 4) (he : er = 0) : Keep P' D (putD N o.k (N o.k + 1)) := by
  cases h with
  | @pin A b B _ hkk => exact ⟨hk.d.mid hg.apart rfl (fun _ _ => rfl) (hk.d.at_ b (by simp)), hk.n.mid hg.apart rfl (fun k hne => putD_off (by rw [← hkk]; exact hne)) (by rw [hkk, putD_at, ← hkk, hk.n.at_ b (by simp)])⟩
  | miss _ _ => cases he
  | other _ _ _ h4 _ _ => exact absurd ho h4
  | _ => first | (rename_i h1 _; rw [ho] at h1; simp at h1) | (rename_i h1 _ _; rw [ho] at h1; simp at h1) | (rename_i h1 _ _ _; rw [ho] at h1; simp at h1) | (rename_i h1 _ _ _ _ _; rw [ho] at h1; simp at h1) | (rename_i h1 _ _ _ _; rw [ho] at h1; simp at h1)
theorem Step.keep5 (h : Step m o P P' er res) (hg : Good m p P) (hk : Keep P D N) (ho : o.kind = 5) (he : er = 0) : Keep P' D (putD N o.k (N o.k - 1)) := by
  cases h with
  | @unpin A b B _ hkk _ => exact ⟨hk.d.mid hg.apart rfl (fun _ _ => rfl) (hk.d.at_ b (by simp)), hk.n.mid hg.apart rfl (fun k hne => putD_off (by rw [← hkk]; exact hne)) (by rw [hkk, putD_at, ← hkk, hk.n.at_ b (by simp)])⟩
  | miss _ _ => cases he
  | unpin0 _ _ _ => cases he
  | other _ _ _ _ h5 _ => exact absurd ho h5
  | _ => first | (rename_i h1 _; rw [ho] at h1; simp at h1) | (rename_i h1 _ _; rw [ho] at h1; simp at h1) | (rename_i h1 _ _ _; rw [ho] at h1; simp at h1) | (rename_i h1 _ _ _ _ _; rw [ho] at h1; simp at h1) | (rename_i h1 _ _ _ _; rw [ho] at h1; simp at h1)
theorem Step.keep6 (h : Step m o P P' er res) (hg : Good m p P) (hk : Keep P D N) (ho : o.kind = 6) (he : er = 0) : N o.k = 0 ∧ Keep P' (putD D o.k none) N := by
  cases h with
  | @drop A b B _ hkk hp =>
    have hn : N b.k = 0 := by rw [hk.n.at_ b (by simp)]; exact hp
    exact ⟨by rw [← hkk]; exact hn, hk.d.less hg.apart (fun k hne => putD_off (by rw [← hkk]; exact hne)) (by rw [hkk, putD_at]), hk.n.less hg.apart (fun _ _ => rfl) hn⟩
  | miss _ _ => cases he
  | busy _ _ _ => cases he
  | other _ _ _ _ _ h6 => exact absurd ho h6
  | _ => first | (rename_i h1 _; rw [ho] at h1; simp at h1) | (rename_i h1 _ _; rw [ho] at h1; simp at h1) | (rename_i h1 _ _ _; rw [ho] at h1; simp at h1) | (rename_i h1 _ _ _ _ _; rw [ho] at h1; simp at h1) | (rename_i h1 _ _ _ _; rw [ho] at h1; simp at h1)
theorem Step.keep0 (h : Step m o P P' er res) (hk : Keep P D N) (h1 : o.kind ≠ 1) (h2 : o.kind ≠ 2) (h3 : o.kind ≠ 3) (h4 : o.kind ≠ 4) (h5 : o.kind ≠ 5) (h6 : o.kind ≠ 6) : Keep P' D N := by
  cases h with
  | other _ _ _ _ _ _ => exact hk
  | miss ho _ => rcases ho with ho | ho | ho | ho <;> contradiction
  | _ => contradiction
end
end Go.Proofs.Ytjldocpjoiibjaa
