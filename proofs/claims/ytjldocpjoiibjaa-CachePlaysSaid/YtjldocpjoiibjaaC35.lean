/- Put in the words of a step. -/
import Derived.Test.YtjldocpjoiibjaaC34
namespace Go.Proofs.Ytjldocpjoiibjaa
open Go.RowKit

section
variable {w w1 w' : World} {cb m : Nat} {s : Int} {F : Nat → Prop} {L : List Bf} {Q : List Bf} {o : Opr} {er : Int} {res : Option (List Value)}
theorem put_range {b : Bool} (h : CAt w cb m s Q F) {k : Int × Int} {a : Option Addr} {n c : Nat} (hn : n ≠ 64) :
    Calls Try.prog 10 #[.pointer (some ⟨cb, 0, none⟩), keyV k, .slice a n c, .bool b] w fun e w' => e = .returned (.int .i64 22) ∧ CAt w' cb m s Q F ∧ Fr F w w' := by
  obtain ⟨x, y⟩ := k
  unfold keyV
  have hf : Fr (fun _ => False) w (w.alloc (.cells #[.int .i64 x, .int .i64 y] 29)) := (Fr.refl _ w).alloc _
  have H := Lib.hid (h.frame hf fun _ _ hx => hx); have HF := Lib.hid hf
  have q1 : ((n : Int) != 64) = true := by simp; omega
  clear h hf
  go_enter Try.func10, Try.ntmps10
  go_wp2_with fail
  go_ret
  exact ⟨rfl, H.out, HF.out.mono fun _ _ hx => hx.elim⟩

theorem putA (h : CAt w cb m s Q F) (hL : Lru Q s L) (hs0 : 0 ≤ s) (hs1 : s ≤ 4000000000000000000) (hl : L.length ≤ m) (hm : m ≤ 10000) (ho : o.kind = 1) {vin : Value}
    (hn : ∃ a c, vin = .slice a o.bytes.length c) (hd : o.bytes.length = 64 → ∃ g oo c, vin = .slice (some ⟨g, oo, none⟩) 64 c ∧ DataAt w F g oo o.bytes) :
    Calls Try.prog 10 #[.pointer (some ⟨cb, 0, none⟩), keyV o.k, vin, .bool o.dirty] w fun e w' => ∃ er, e = .returned (.int .i64 er) ∧ After cb m s F L o w w' er none := by
  have hql := hL.perm.length_eq
  by_cases h64 : o.bytes.length = 64
  · obtain ⟨g, oo, c, rfl, hda⟩ := hd h64
    clear hd hn
    rcases key_in (L := L) (k := o.k) with ⟨A, b, B, rfl, hk⟩ | hnk
    · obtain ⟨i, hi⟩ := hL.at (b := b) (by simp)
      have hg := put_old (d := o.dirty) (c := c) h hi hda hs0 hs1 (by omega)
      rw [hk] at hg
      refine hg.mono ?_
      rintro e w' ⟨rfl, hc, hf⟩
      have hL2 := (hL.set (b' := b.put o.bytes o.dirty) hi rfl).use (set_at hi)
      refine ⟨0, rfl, ⟨_, _, F, _, hc, hL2, by omega, by omega, hf, fun x hx => .inl hx, ?_⟩⟩
      simp only [List.map_append, List.map_cons, List.map_nil]
      exact Step.old (b := b.pb) ho h64 hk
    · have hfr := off_keys hL hnk
      by_cases hfull : L.length = m
      · rcases stuck_split L with hst | ⟨A, b, B, rfl, hA, hb⟩
        · obtain ⟨he, hL2⟩ := hL.stuck hst
          refine (put_full (d := o.dirty) (c := c) h hfr (by omega) he hda hs0 hs1 (by omega)).mono ?_
          rintro e w' ⟨rfl, hc, hf⟩
          refine ⟨28, rfl, ⟨_, _, _, _, hc, hL2, by omega, by omega, hf, fun x hx => hx.imp id fun h => h.1, Step.full ho h64 (off_pb hnk) (by rw [List.length_map]; exact hfull) fun x hx => ?_⟩⟩
          obtain ⟨y, hy, rfl⟩ := List.mem_map.1 hx
          exact hst y hy
        · obtain ⟨he, hL2⟩ := hL.evict hA hb
          refine (put_evict (d := o.dirty) (c := c) h hfr (by omega) (by rw [he]; rfl) hda hs0 hs1 (by omega)).mono ?_
          rintro e w' ⟨nb, i, hnb, hi, rfl, hc, hf⟩
          have hL3 := Lru.push (l := o.bytes) (d := o.dirty) hL2 hs0 hi
          refine ⟨0, rfl, ⟨_, _, _, _, hc, hL3, by omega, by omega, hf, fun x hx => hx.imp id fun h => h.1, ?_⟩⟩
          have hpb := off_pb hnk
          have hml : ((A ++ b :: B).map Bf.pb).length = m := by rw [List.length_map]; exact hfull
          simp only [List.map_append, List.map_cons, List.map_nil] at hpb hml ⊢
          refine Step.evict (b := b.pb) ho h64 hpb hml (fun x hx => ?_) hb
          obtain ⟨y, hy, rfl⟩ := List.mem_map.1 hx
          exact hA y hy
      · refine (put_new (d := o.dirty) (c := c) h hfr (by omega) hda hs0 hs1 (by omega)).mono ?_
        rintro e w' ⟨nb, i, hnb, hi, rfl, hc, hf⟩
        have hL3 := Lru.push (l := o.bytes) (d := o.dirty) hL hs0 hi
        refine ⟨0, rfl, ⟨_, _, _, _, hc, hL3, by omega, by omega, hf, fun x hx => hx.imp id fun h => h.1, ?_⟩⟩
        simp only [List.map_append, List.map_cons, List.map_nil]
        exact Step.new ho h64 (off_pb hnk) (by rw [List.length_map]; omega)
  · obtain ⟨a, c, rfl⟩ := hn
    refine (put_range (k := o.k) h h64).mono ?_
    rintro e w' ⟨rfl, hc, hf⟩
    exact ⟨22, rfl, ⟨Q, s, F, L, hc, hL, by omega, by omega, hf, fun x hx => .inl hx, Step.range ho h64⟩⟩
end
end Go.Proofs.Ytjldocpjoiibjaa
