/- Plain laws of a step: what it keeps; and what CacheLast says of it. -/
import Derived.Test.YtjldocpjoiibjaaC39
namespace Go.Proofs.Ytjldocpjoiibjaa
open Go.RowKit

structure Good (m p : Nat) (P : List Pb) : Prop where
  len : P.length ≤ m
  pins : ∀ b ∈ P, 0 ≤ b.pins ∧ b.pins ≤ p
  dat : ∀ b ∈ P, AllB b.data ∧ b.data.length = 64
  keys : (P.map (·.k)).Nodup
section
variable {m p : Nat} {P P' A B : List Pb} {b b' : Pb} {o : Opr} {er : Int} {res : Option (List Value)}
theorem Good.perm (h : Good m p P) (hp : P'.Perm P) : Good m p P' :=
  ⟨by rw [hp.length_eq]; exact h.len, fun b hb => h.pins b (hp.mem_iff.1 hb), fun b hb => h.dat b (hp.mem_iff.1 hb), (hp.map (·.k)).nodup_iff.2 h.keys⟩
theorem Good.more (h : Good m p P) : Good m (p + 1) P := ⟨h.len, fun b hb => by have := h.pins b hb; omega, h.dat, h.keys⟩
theorem mid_pb (A B : List Pb) (b : Pb) : (A ++ B ++ [b]).Perm (A ++ b :: B) := by
  rw [List.append_assoc]
  exact (List.perm_append_comm (l₁ := B) (l₂ := [b])).append_left A
theorem Good.mid (h : Good m p (A ++ b :: B)) (hk : b'.k = b.k) (h1 : 0 ≤ b'.pins ∧ b'.pins ≤ p) (h2 : AllB b'.data ∧ b'.data.length = 64) : Good m p (A ++ b' :: B) := by
  refine ⟨by simpa using h.len, fun x hx => ?_, fun x hx => ?_, ?_⟩
  · rcases List.mem_append.1 hx with hx | hx
    · exact h.pins x (List.mem_append_left _ hx)
    · rcases List.mem_cons.1 hx with rfl | hx
      · exact h1
      · exact h.pins x (List.mem_append_right _ (List.mem_cons_of_mem _ hx))
  · rcases List.mem_append.1 hx with hx | hx
    · exact h.dat x (List.mem_append_left _ hx)
    · rcases List.mem_cons.1 hx with rfl | hx
      · exact h2
      · exact h.dat x (List.mem_append_right _ (List.mem_cons_of_mem _ hx))
  · have := h.keys
    rw [List.map_append, List.map_cons] at this ⊢
    rw [hk]; exact this
theorem Good.less (h : Good m p (A ++ b :: B)) : Good m p (A ++ B) := by
  have hs : (A ++ B).Sublist (A ++ b :: B) := List.Sublist.append (List.Sublist.refl _) (List.sublist_cons_self _ _)
  exact ⟨Nat.le_trans hs.length_le h.len, fun x hx => h.pins x (hs.subset hx), fun x hx => h.dat x (hs.subset hx), List.Nodup.sublist (hs.map _) h.keys⟩
theorem Good.new (h : Good m p P) (hl : P.length < m) (hk : ∀ x ∈ P, x.k ≠ b.k) (h1 : b.pins = 0) (h2 : AllB b.data ∧ b.data.length = 64) : Good m p (P ++ [b]) := by
  refine ⟨by simp; omega, fun x hx => ?_, fun x hx => ?_, ?_⟩
  · rcases List.mem_append.1 hx with hx | hx
    · exact h.pins x hx
    · rw [List.mem_singleton] at hx; subst hx; omega
  · rcases List.mem_append.1 hx with hx | hx
    · exact h.dat x hx
    · rw [List.mem_singleton] at hx; subst hx; exact h2
  · rw [List.map_append, List.nodup_append]
    refine ⟨h.keys, by simp, fun k hk1 k' hk2 => ?_⟩
    obtain ⟨x, hx, rfl⟩ := List.mem_map.1 hk1
    simp at hk2
    subst hk2
    exact hk x hx
theorem Step.good (h : Step m o P P' er res) (hg : Good m p P) : Good m (p + 1) P' := by
  cases h with
  | range _ _ => exact hg.more
  | @old A b B ho h64 hk =>
    have h1 := hg.pins b (by simp)
    exact (hg.more.mid (b' := { b with data := o.bytes, dirty := b.dirty || o.dirty }) rfl ⟨h1.1, by show b.pins ≤ _; omega⟩ ⟨opr_allB o, h64⟩).perm (mid_pb _ _ _)
  | new ho h64 hk hl => exact hg.more.new hl hk rfl ⟨opr_allB o, h64⟩
  | @evict A b B ho h64 hk hl _ _ =>
    refine hg.more.less.new (by simp at hl ⊢; omega) (fun x hx => hk x ?_) rfl ⟨opr_allB o, h64⟩
    rcases List.mem_append.1 hx with hx | hx
    · exact List.mem_append_left _ hx
    · exact List.mem_append_right _ (List.mem_cons_of_mem _ hx)
  | full _ _ _ _ _ => exact hg.more
  | got _ _ => exact hg.more.perm (mid_pb _ _ _)
  | gone _ _ => exact hg.more
  | miss _ _ => exact hg.more
  | @clean A b B ho hk =>
    have h1 := hg.pins b (by simp)
    exact hg.more.mid rfl ⟨h1.1, by show b.pins ≤ _; omega⟩ (hg.dat b (by simp))
  | @pin A b B ho hk =>
    have h1 := hg.pins b (by simp)
    exact hg.more.mid rfl ⟨by show 0 ≤ b.pins + 1; omega, by show b.pins + 1 ≤ _; omega⟩ (hg.dat b (by simp))
  | @unpin A b B ho hk hp =>
    have h1 := hg.pins b (by simp)
    exact hg.more.mid rfl ⟨by show 0 ≤ b.pins - 1; omega, by show b.pins - 1 ≤ _; omega⟩ (hg.dat b (by simp))
  | unpin0 _ _ _ => exact hg.more
  | drop _ _ _ => exact hg.more.less
  | busy _ _ _ => exact hg.more
  | other _ _ _ _ _ _ => exact hg.more
theorem Good.apart (h : Good m p (A ++ b :: B)) : ∀ x, x ∈ A ++ B → x.k ≠ b.k := by
  have hn := ((mid_pb A B b).map (·.k)).nodup_iff.2 h.keys
  rw [List.map_append, List.nodup_append] at hn
  intro x hx
  exact hn.2.2 _ (List.mem_map.2 ⟨x, hx, rfl⟩) _ (by simp)

/-- What was put last under each key. -/
def Last (f : Int × Int → Option Value) (P : List Pb) : Prop := ∀ b ∈ P, f b.k = some (.string (strD b.data))
theorem Last.put {f : Int × Int → Option Value} (h : ∀ x ∈ P, x.k ≠ o.k ∧ f x.k = some (.string (strD x.data))) (hb : b.k = o.k ∧ b.data = o.bytes) : Last (putF f o.k (.string (strD o.bytes))) (P ++ [b]) := fun x hx => by
  unfold putF
  rcases List.mem_append.1 hx with hx | hx
  · rw [if_neg (h x hx).1]; exact (h x hx).2
  · rw [List.mem_singleton] at hx; subst hx
    rw [if_pos hb.1, hb.2]
theorem step_put {f : Int × Int → Option Value} (h : Step m o P P' er res) (hg : Good m p P) (hl : Last f P) (ho : o.kind = 1) (he : er = 0) : Last (putF f o.k (.string (strD o.bytes))) P' := by
  cases h with
  | range _ _ => cases he
  | @old A b B _ h64 hk => exact Last.put (fun x hx => ⟨by rw [← hk]; exact hg.apart x hx, hl x (by simp at hx ⊢; rcases hx with hx | hx <;> simp [hx])⟩) ⟨hk, rfl⟩
  | new _ h64 hk _ => exact Last.put (fun x hx => ⟨hk x hx, hl x hx⟩) ⟨rfl, rfl⟩
  | @evict A b B _ h64 hk _ _ _ =>
    refine Last.put (fun x hx => ?_) ⟨rfl, rfl⟩
    have hm : x ∈ A ++ b :: B := by simp at hx ⊢; rcases hx with hx | hx <;> simp [hx]
    exact ⟨hk x hm, hl x hm⟩
  | full _ _ _ _ _ => cases he
  | other h1 _ _ _ _ _ => exact absurd ho h1
  | _ => first | (rename_i h1 _; rw [ho] at h1; simp at h1) | (rename_i h1 _ _; rw [ho] at h1; simp at h1)
theorem last_mid {f : Int × Int → Option Value} (hl : Last f (A ++ b :: B)) (hk : b'.k = b.k ∧ b'.data = b.data) : Last f (A ++ b' :: B) := fun x hx => by
  rcases List.mem_append.1 hx with hx | hx
  · exact hl x (List.mem_append_left _ hx)
  · rcases List.mem_cons.1 hx with rfl | hx
    · rw [hk.1, hk.2]; exact hl b (by simp)
    · exact hl x (List.mem_append_right _ (List.mem_cons_of_mem _ hx))
theorem step_keep {f : Int × Int → Option Value} (h : Step m o P P' er res) (hl : Last f P) (ho : o.kind ≠ 1 ∨ er ≠ 0) : Last f P' := by
  cases h with
  | range _ _ => exact hl
  | old h1 _ _ => rcases ho with ho | ho <;> exact absurd (by first | exact h1 | rfl) ho
  | new h1 _ _ _ => rcases ho with ho | ho <;> exact absurd (by first | exact h1 | rfl) ho
  | evict h1 _ _ _ _ _ => rcases ho with ho | ho <;> exact absurd (by first | exact h1 | rfl) ho
  | full _ _ _ _ _ => exact hl
  | got _ _ => exact fun x hx => hl x ((mid_pb _ _ _).mem_iff.1 hx)
  | gone _ _ => exact hl
  | miss _ _ => exact hl
  | clean _ _ => exact last_mid hl ⟨rfl, rfl⟩
  | pin _ _ => exact last_mid hl ⟨rfl, rfl⟩
  | unpin _ _ _ => exact last_mid hl ⟨rfl, rfl⟩
  | unpin0 _ _ _ => exact hl
  | drop _ _ _ => exact fun x hx => hl x (by simp at hx ⊢; rcases hx with hx | hx <;> simp [hx])
  | busy _ _ _ => exact hl
  | other _ _ _ _ _ _ => exact hl
theorem step_got {f : Int × Int → Option Value} {l : List Value} (h : Step m o P P' er (some l)) (hg : Good m p P) (hl : Last f P) : o.kind = 2 ∧ er = 0 ∧ f o.k = some (.string (strD l)) ∧ AllB l := by
  cases h with
  | @got A b B ho hk => exact ⟨ho, rfl, by rw [← hk]; exact hl b (by simp), (hg.dat b (by simp)).1⟩
end
end Go.Proofs.Ytjldocpjoiibjaa
