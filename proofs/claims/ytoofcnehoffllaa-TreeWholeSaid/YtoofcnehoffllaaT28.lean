/- Walks of List, Walk. -/
import Derived.Test.YtoofcnehoffllaaT27
import Derived.Test.YtoofcnehoffllaaT22
namespace Go.Proofs.Ytoofcnehoffllaa
open Go.RowKit

section
variable {w : World} {mb : Nat} {f : ByteArray → Option Value}
theorem sortsA (m : Nat) : AnyZ.SortsIn Try.prog Try.sortedA_ren Fence.wide m :=
  ⟨fun blk off cap ss W hH hblk hsz => callsIn_wide.2 (AnyM.slices_Sort_string Try.sortS blk off cap ss W hH hblk hsz), fun p cap W => callsIn_wide.2 (AnyM.slices_Sort_string_none Try.sortS p cap W)⟩
theorem keys_any (m : Option Nat) (w : World) : Calls Try.prog 46 #[.map m] w fun e w' => e = .returned (.func (.func 61) #[] #[.pointer (some ⟨w.heap.size, 0, none⟩)]) ∧ w' = w.alloc (.cells #[.map m] 65) :=
  (callsIn_wide (n := 5)).1 (AnyZ.keys_in Try.keysA Fence.wide 5 trivial rfl m w)
/-- The keys of a map, rising. -/
theorem sorted_any (h : MapIs Value.string w mb f) (hw : ∀ k, (f k).isSome = true → k.size ≤ maxLen) {l : List ByteArray} (hn : l.Nodup) (hl : ∀ k, k ∈ l ↔ (f k).isSome = true) (hmax : l.length ≤ 1000000) :
    Calls Try.prog 45 #[.func (.func 61) #[] #[.pointer (some ⟨w.heap.size, 0, none⟩)]] (w.alloc (.cells #[.map (some mb)] 65)) fun e w' => ∃ v, e = .returned v ∧ w'.ownsRow (w.heap.size + 1) 9 1 v (sortS l).length ((sortS l).map Value.string) ∧ Below (w.heap.size + 1) (w.alloc (.cells #[.map (some mb)] 65)) w' := by
  obtain ⟨D0, hown, hp, hsz⟩ := h.ownsS (P := Try.prog) (K := 9) (t := 65) Try.underlying9 Try.underlying65 zero_node hw hn hl (by unfold maxLen; omega)
  have hseq : SeqGives Fence.wide 2 Try.prog 61 #[.pointer (some ⟨w.heap.size, 0, none⟩)] encStr (fun ss => ss.Perm (strKeys D0)) (Maps.size D0) (w.alloc (.cells #[.map (some mb)] 65)) :=
    AnyZ.keys_gives (ρ := Try.keysA_ren) { Try.keysA with } Fence.wide _ trivial rfl (by omega) w.heap.size mb l.length D0 _ (by simp) (by simp) (hown.alloc _)
  have cS := AnyZ.sorted_in Try.sortedA Fence.wide 5 trivial trivial trivial trivial rfl (by omega) (sortsA _) (enters_of Try.func33 (by kernel_rfl) rfl) 61 #[.pointer (some ⟨w.heap.size, 0, none⟩)] trivial (enters_of Try.func61 (by kernel_rfl) rfl) _ _ (by unfold maxLen; omega) (by omega) _ hseq
  change CallsIn _ _ Try.prog 45 _ _ _ at cS
  refine (callsIn_wide.1 cS).mono ?_
  rintro e w' ⟨v, ss, rfl, hs, hrow, hnil, hb⟩
  have hpl : ss.Perm (l.map (·.data.toList)) := hs.trans hp.symm
  have hsl : (ss.mergeSort fun x y => decide (x ≤ y)).map encStr = (sortS l).map Value.string := by
    rw [← encS', show (ss.mergeSort fun x y => decide (x ≤ y)) = (l.map (·.data.toList)).mergeSort fun x y => decide (x ≤ y) from mergeSort_of_perm hpl]
  rw [hsl, hpl.length_eq, List.length_map] at hrow
  have hsz1 : (w.alloc (.cells #[.map (some mb)] 65)).heap.size = w.heap.size + 1 := by simp
  rw [hsz1] at hrow hb
  refine ⟨v, rfl, ?_, hb⟩
  rw [sortS_length]
  exact hrow
def strV : Value → ByteArray
  | .string s => s
  | _ => ⟨#[]⟩
theorem MapIs.keys (h : MapIs Value.string w mb f) : ∃ l : List ByteArray, l.Nodup ∧ ∀ k, k ∈ l ↔ (f k).isSome = true := by
  obtain ⟨es, c, hm, hs, h1, h2⟩ := h
  have hpw := ((MapKept.stamped_iff es c).1 hs).2.2
  refine ⟨es.toList.map fun e => strV e.key, ?_, fun k => ?_⟩
  · rw [List.Nodup, List.pairwise_map]
    refine hpw.imp_of_mem fun {a b} ha hb hne e => hne ?_
    obtain ⟨k, hk, _⟩ := h1 a ha
    obtain ⟨k', hk', _⟩ := h1 b hb
    rw [hk, hk'] at e ⊢
    exact congrArg _ e
  · rw [List.mem_map]
    constructor
    · rintro ⟨e, he, rfl⟩
      obtain ⟨k, hk, hf⟩ := h1 e he
      rw [hk]
      show (f k).isSome = true
      rw [hf]; rfl
    · intro hk
      obtain ⟨v, hv⟩ := Option.isSome_iff_exists.1 hk
      obtain ⟨e, he, hek, _⟩ := h2 k v hv
      exact ⟨e, he, by rw [hek]; rfl⟩
end
/-- A directory's names, rising. -/
def ListIs (M : TM) (i : Nat) (l : List ByteArray) : Prop := (l.map (·.data.toList)).Pairwise (· ≤ ·) ∧ l.Nodup ∧ ∀ s, s ∈ l ↔ (entN M i s).isSome = true
theorem sorted_eq {l m : List ByteArray} (h : l.Perm m) (h1 : (l.map (·.data.toList)).Pairwise (· ≤ ·)) (h2 : (m.map (·.data.toList)).Pairwise (· ≤ ·)) : l = m := by
  rw [← sortS_eq (List.Perm.refl l) h1, ← sortS_eq (List.Perm.refl m) h2]
  exact sortS_of_perm h
theorem ListIs.eq {M : TM} {i : Nat} {l m : List ByteArray} (h : ListIs M i l) (h' : ListIs M i m) : l = m :=
  sorted_eq ((List.perm_ext_iff_of_nodup h.2.1 h'.2.1).2 fun s => (h.2.2 s).trans (h'.2.2 s).symm) h.1 h'.1
def listC (M : TM) (s : ByteArray) : Int := match lookN M s with
  | .inr c => c
  | .inl i => if isDir M i then 0 else 20
def ListOf (M : TM) (s : ByteArray) (l : List ByteArray) : Prop := match lookN M s with
  | .inr _ => l = []
  | .inl i => if isDir M i = true then ListIs M i l else l = []
/-- All paths, rising. -/
def WalkIs (M : TM) (l : List ByteArray) : Prop := (l.map (·.data.toList)).Pairwise (· ≤ ·) ∧ ∃ LL, BelowIs M 2 LL ∧ l.Perm (LL.map (pathAt M))
theorem WalkIs.eq {M : TM} {l m : List ByteArray} (h : WalkIs M l) (h' : WalkIs M m) : l = m := by
  obtain ⟨h1, LL, hL, hp⟩ := h
  obtain ⟨h1', LL', hL', hp'⟩ := h'
  refine sorted_eq (hp.trans ((((List.perm_ext_iff_of_nodup hL.1 hL'.1).2 fun s => (hL.2 s).trans (hL'.2 s).symm).map _).trans hp'.symm)) h1 h1'
section
variable {w : World} {tb nb cap : Nat} {P E : Nat → Option Nat} {V : Nat → Value} {M : TM}
theorem TG.ents_le (hG : TG M cap) (hc : cap ≤ 201) {i : Nat} {l : List ByteArray} (hn : l.Nodup) (hl : ∀ s ∈ l, (entN M i s).isSome = true) : l.length ≤ 20100 := by
  obtain ⟨L, hL, hl'⟩ := hG.nms
  have h1 := nodup_le (l := l.map fun s => (i, s)) (m := L) (nodup_on hn fun a _ b _ e => by injection e) fun x hx => by
    obtain ⟨s, hs, rfl⟩ := List.mem_map.1 hx
    exact (hL.2 _).2 (hl s hs)
  rw [List.length_map] at h1
  have := hG.names_le hc hL hl'
  omega
set_option maxHeartbeats 2000000 in
set_option maxRecDepth 100000 in
theorem list_any {F : Nat → Prop} (hAt : TAt w tb cap F M) (hG : TG M cap) (hS : TS M) (s : ByteArray) (hs : s.size ≤ 1000000) :
    Calls Try.prog 26 #[.pointer (some ⟨tb, 0, none⟩), .string s] w fun e w' => ∃ v l, e = .returned (.tuple #[v, .int .i64 (listC M s)]) ∧ ListOf M s l ∧ w'.ownsRow w.heap.size 9 1 v l.length (l.map Value.string) ∧ Below w.heap.size w w' := by
  obtain ⟨nb, P, E, V, h, hFt⟩ := hAt
  have HF := Lib.hid (look_any h s hs)
  have HT := Lib.hid h; have HG := Lib.hid hG; have HSS := Lib.hid hS
  have HC : Hid (listC M s = match lookN M s with
    | .inr c => c
    | .inl i => if isDir M i then 0 else 20) := Lib.hid rfl
  have HO : Hid (∀ l, ListOf M s l = match lookN M s with
    | .inr _ => l = []
    | .inl i => if isDir M i = true then ListIs M i l else l = []) := Lib.hid fun _ => rfl
  clear hFt h hG hs hS
  cases hq : lookN M s with
  | inr c =>
    have hc := look_code hq
    have HRES : Hid (listC M s = c ∧ ListOf M s []) := Lib.hid ⟨by rw [HC.out, hq], by rw [HO.out, hq]⟩
    rw [hq] at HF
    have hc2 : (c != 0) = true := by simp [hc]
    clear hq hc HC HO
    unfold leadV at HF
    go_enter Try.func26, Try.ntmps26
    go_wp2_with fail
    refine HF.out.mono ?_
    rintro e w1 ⟨rfl, hb1⟩
    have HB1 := Lib.hid hb1
    clear hb1 HF
    go_wp2_with fail
    go_ret2
    exact ⟨.slice none 0 0, [], by rw [HRES.out.1]; rfl, HRES.out.2, ⟨rfl, .inl ⟨rfl, rfl⟩⟩, HB1.out⟩
  | inl i =>
    have hi := look_isin HT.out hq
    obtain ⟨nd, hm⟩ := Option.isSome_iff_exists.1 hi
    obtain ⟨b, hp, _⟩ := HT.out.at_ hm
    have HLV : leadV P (.inl i) = .tuple #[.pointer (some ⟨b, 0, none⟩), .int .i64 0] := by show Value.tuple #[nptr (P i), _] = _; rw [hp]; rfl
    have HC2 : Hid (listC M s = if isDir M i then 0 else 20) := Lib.hid (by rw [HC.out, hq])
    have HO2 : Hid (∀ l, ListOf M s l = if isDir M i = true then ListIs M i l else l = []) := Lib.hid fun l => by rw [HO.out, hq]
    rw [hq, HLV] at HF
    have HM := Lib.hid hm; have HP := Lib.hid hp; have HI := Lib.hid hi
    clear hq hi hm hp HLV HC HO
    go_enter Try.func26, Try.ntmps26
    go_wp2_with fail
    refine HF.out.mono ?_
    rintro e w1 ⟨rfl, hb1⟩
    have h1 := HT.out.below hb1
    have HD := Lib.hid (dir_any h1 HI.out)
    rw [HP.out] at HD
    unfold nptr at HD
    have HB1 := Lib.hid hb1
    cases hdi : isDir M i with
    | false =>
      have HRES : Hid (listC M s = 20 ∧ ListOf M s []) := Lib.hid ⟨by rw [HC2.out, hdi]; rfl, by rw [HO2.out, hdi]; rfl⟩
      rw [hdi] at HD
      clear hb1 h1 hdi HF HC2 HO2
      go_wp2_with fail
      refine HD.out.mono ?_
      rintro e w2 ⟨rfl, hw2⟩
      obtain rfl := hw2.symm
      go_wp2_with fail
      go_ret2
      exact ⟨.slice none 0 0, [], by rw [HRES.out.1]; rfl, HRES.out.2, ⟨rfl, .inl ⟨rfl, rfl⟩⟩, HB1.out⟩
    | true =>
      obtain ⟨nd', f, hm', hf2⟩ := isDir_there hdi
      obtain rfl : nd = nd' := by have := HM.out; rw [hm'] at this; exact (Option.some.inj this).symm
      obtain ⟨eb, hE, hMp⟩ : ∃ eb, E i = some eb ∧ MapIs Value.string w1 eb (entF P f) := by
        have := h1.ents i nd hm'
        rw [hf2] at this
        exact this
      have hef := ent_fun hm' hf2
      have hb := h1.node i b nd HP.out hm'
      have c1 := cell_blk_some hb (i := 1) rfl
      rw [hE] at c1
      have hfe : ∀ k, ((entF P f) k).isSome = (entN M i k).isSome := fun k => by rw [hef]; unfold entF; cases f k <;> rfl
      obtain ⟨l, hn, hl⟩ := hMp.keys
      have hmax := HG.out.ents_le HT.out.capB hn fun s hs => by rw [← hfe]; exact (hl s).1 hs
      have HK := Lib.hid (keys_any (some eb) w1)
      have HSO := Lib.hid (sorted_any hMp (fun k hk => by
        rw [hfe] at hk
        obtain ⟨j, hj⟩ := Option.isSome_iff_exists.1 hk
        have := (nameE_len (HSS.out.nam i k j hj)).1
        have := Lib.size_eq k
        unfold maxLen
        omega) hn hl (by omega))
      have HLI : Hid (ListIs M i (sortS l)) := Lib.hid ⟨sortS_sorted l, (sortS_perm l).symm.nodup hn, fun s => by rw [(sortS_perm l).mem_iff, hl, hfe]⟩
      have HRES : Hid (listC M s = 0 ∧ ListOf M s (sortS l)) := Lib.hid ⟨by rw [HC2.out, hdi]; rfl, by rw [HO2.out, hdi]; exact HLI.out⟩
      rw [hdi] at HD
      clear hb1 h1 hdi HF HC2 HO2 hb hm' hf2 hE hMp hef hfe hn hl
      go_wp2_with fail
      refine HD.out.mono ?_
      rintro e w2 ⟨rfl, hw2⟩
      obtain rfl := hw2.symm
      go_wp2_with fail
      refine HK.out.mono ?_
      rintro e w3 ⟨rfl, rfl⟩
      go_wp2_with fail
      refine HSO.out.mono ?_
      rintro e w4 ⟨v, rfl, ho, hb4⟩
      have hb4' := hb4.mono (show w1.heap.size ≤ w1.heap.size + 1 by omega)
      have HO4 := Lib.hid ho; have HB4 := Lib.hid (((Below.refl _ w1).alloc (Nat.le_refl _) _).trans hb4')
      clear ho hb4 hb4' HSO HK
      go_wp2_with fail
      go_ret2
      exact ⟨v, sortS l, by rw [HRES.out.1]; rfl, HRES.out.2, own_mono HO4.out (Nat.le_trans HB1.out.size (by omega)), below_call HB1.out HB4.out (Nat.le_refl _)⟩
end
end Go.Proofs.Ytoofcnehoffllaa
