/- Walks of file.New, told, need. -/
import Derived.Test.YtklamgijikcnaaaDoorF11
namespace Go.Proofs.YtklamgijikcnaaaDoor
open Go.RowKit

theorem fnew_any {w : World} (S : SpanAt w) :
    Calls Tryd.prog 9 #[] w fun e w' => e = .returned (.pointer (some ⟨w.heap.size + 2, 0, none⟩)) ∧ FAt w' (w.heap.size + 2) (fun _ => 0) (fun _ => none) (fun x => w.heap.size ≤ x ∧ x < w.heap.size + 3) ∧ Below w.heap.size w w' := by
  have SP := Lib.hid S
  have hsp := S.lt
  clear S
  have m1 := fun w => run_makeMap (P := Tryd.prog) 27 w
  have m2 := fun w => run_makeMap (P := Tryd.prog) 73 w
  go_enter Tryd.func9, Tryd.ntmps9
  go_wp2_with fail
  go_ret
  obtain ⟨w2, hw2⟩ : ∃ w2, w2 = (w.alloc (.map #[] 0)).alloc (.map #[] 0) := ⟨_, rfl⟩
  have h0 : ((w2).alloc (.cells #[.map (some w.heap.size), .map (some (w.heap.size + 1))] 75)).heap[w.heap.size]? = some (.map #[] 0) := by rw [hw2]; exact blk_old (blk_old (blk_new rfl))
  have h1 : ((w2).alloc (.cells #[.map (some w.heap.size), .map (some (w.heap.size + 1))] 75)).heap[w.heap.size + 1]? = some (.map #[] 0) := by rw [hw2]; exact blk_old (blk_new (by simp))
  have h2 : ((w2).alloc (.cells #[.map (some w.heap.size), .map (some (w.heap.size + 1))] 75)).heap[w.heap.size + 2]? = some (.cells #[.map (some w.heap.size), .map (some (w.heap.size + 1))] 75 (0, 0)) := by rw [hw2]; exact blk_new (by simp)
  refine ⟨rfl, ?_, ((Below.refl _ w).alloc (Nat.le_refl _) _ |>.alloc (by simp) _).alloc (by simp; omega) _⟩
  rw [← hw2]
  refine ⟨⟨w.heap.size, w.heap.size + 1, fun _ => none, ⟨h2, ?_, ?_, fun k => rfl, fun k b a u hp => (by cases hp), fun k k' b hp => (by cases hp), by omega⟩, fun x hx => ?_⟩, fun x hx => ?_, by omega, ?_⟩
  · have := MapIs.new (Value.int .i64) _ _ h0
    have e : dataF (fun _ => 0) = fun _ => none := by funext k; unfold dataF; rw [if_pos rfl]
    rw [e]; exact this
  · exact MapIs.new (Value.int .i64) _ _ h1
  · rcases hx with rfl | rfl | rfl | ⟨k, hk⟩
    · omega
    · omega
    · omega
    · cases hk
  · have : w2.heap.size = w.heap.size + 2 := by rw [hw2]; simp
    show x < (w2.heap.push _).size
    rw [Array.size_push]; omega
  · rw [hw2]; exact ((SP.out.alloc _).alloc _).alloc _
theorem told_any (a : Int) (w : World) :
    Calls Tryd.prog 27 #[.int .i64 a] w fun e w' => ∃ v, e = .returned v ∧ OwnI w' w.heap.size v (toldL a) ∧ Below w.heap.size w w' := by
  by_cases h0 : a = 0
  · subst h0
    go_enter Tryd.func27, Tryd.ntmps27
    go_wp2_with fail
    go_ret
    exact ⟨_, rfl, by unfold toldL; rw [if_pos rfl]; exact IntsAt.nil _ _ _, Below.refl _ _⟩
  · have q : (a == 0) = false := beq_eq_false_iff_ne.2 h0
    go_enter Tryd.func27, Tryd.ntmps27
    go_wp2_with fail
    go_ret
    refine ⟨_, rfl, ?_, (Below.refl _ w).alloc (Nat.le_refl _) _⟩
    unfold toldL
    rw [if_neg h0]
    exact ⟨rfl, .inr ⟨w.heap.size, 1, _, rfl, Nat.le_refl _, blk_new rfl, by simp, by unfold maxLen; simp, rfl, rfl⟩⟩
theorem told_zero (w : World) : Calls Tryd.prog 27 #[.int .i64 0] w fun e w' => e = .returned (.slice none 0 0) ∧ w' = w := by
  go_enter Tryd.func27, Tryd.ntmps27
  go_wp2_with fail
  go_ret
  exact ⟨rfl, rfl⟩
/-- The counts are no great numbers. -/
def Few (m : MM) : Prop := ∀ k a u, m k = some (a, u) → 0 ≤ u ∧ u ≤ 100
theorem Few.upd {m : MM} (h : Few m) {k a u : Int} (hu : 0 ≤ u ∧ u ≤ 100) : Few (updM m k (some (a, u))) := fun x b c hx => by
  by_cases e : x = k
  · rw [e, updM_self] at hx
    obtain ⟨rfl, rfl⟩ := Prod.mk.inj (Option.some.inj hx)
    exact hu
  · rw [updM_other e] at hx; exact h x b c hx
theorem Few.del {m : MM} (h : Few m) {k : Int} : Few (updM m k none) := fun x b c hx => by
  by_cases e : x = k
  · rw [e, updM_self] at hx; cases hx
  · rw [updM_other e] at hx; exact h x b c hx
theorem Inv.few {d : Int → Int} {m : MM} (h : Inv d m) : Few m := fun k a u hk => by
  have h1 := h.j.cnt k a u hk
  have h2 := cnt_le (h := hasB d m) (h.j.dom k _ hk)
  omega
/-- Behind a step: the map's blocks are the old ones, or new ones; nothing else has turned. -/
structure Aft (w w' : World) (F F' : Nat → Prop) : Prop where
  fr : Fr F w w'
  new : ∀ x, F' x → F x ∨ w.heap.size ≤ x
theorem Aft.refl (w : World) (F : Nat → Prop) : Aft w w F F := ⟨Fr.refl _ _, fun _ h => .inl h⟩
theorem Aft.trans {a b c : World} {F F' F'' : Nat → Prop} (h : Aft a b F F') (k : Aft b c F' F'') : Aft a c F F'' :=
  ⟨⟨k.fr.os.trans h.fr.os, k.fr.tape.trans h.fr.tape, k.fr.output.trans h.fr.output, Nat.le_trans h.fr.size k.fr.size, fun x hx hn => (k.fr.block x (Nat.lt_of_lt_of_le hx h.fr.size) fun h' => (h.new x h').elim hn fun h'' => by omega).trans (h.fr.block x hx hn)⟩,
    fun x hx => (k.new x hx).elim (h.new x) fun h' => .inr (Nat.le_trans h.fr.size h')⟩
theorem Aft.below {a b : World} {F : Nat → Prop} (h : Below a.heap.size a b) : Aft a b F F := ⟨Fr.below h, fun _ h => .inl h⟩
theorem Aft.same {a b : World} {F : Nat → Prop} {S : Nat → Prop} (h : Fr S a b) (hs : ∀ x, S x → F x) : Aft a b F F := ⟨h.tell hs, fun _ h => .inl h⟩
def NeedSt (w : World) (fb : Nat) (d : Int → Int) (m0 : MM) (F : Nat → Prop) (n0 : Int) (n : Int) (wr : World) : Prop :=
  ∃ t m F', n ∈ nodesN ∧ 4 ≤ lvlN n + t ∧ needM t m n = needM 4 m0 n0 ∧ Few m ∧ FAt wr fb d m F' ∧ Aft w wr F F'

set_option maxHeartbeats 2000000 in
set_option maxRecDepth 100000 in
theorem need_any {w : World} {fb : Nat} {d : Int → Int} {m0 : MM} {F : Nat → Prop} {n : Int} (hF : FAt w fb d m0 F) (hn : n ∈ nodesN) (hu : Few m0) :
    Calls Tryd.prog 29 #[.pointer (some ⟨fb, 0, none⟩), .int .i64 n] w fun e w' => e = .returned (.tuple #[]) ∧ ∃ F', FAt w' fb d (needM 4 m0 n) F' ∧ Aft w w' F F' := by
  have ST : Hid (NeedSt w fb d m0 F n n w) := Lib.hid ⟨4, m0, F, hn, by omega, rfl, hu, hF, Aft.refl _ _⟩
  clear hF hn hu
  go_enter Tryd.func29, Tryd.ntmps29
  go_wp2_with fail
  go_loopw [1] (fun v wr => ∃ c : Int, v = .int .i64 c ∧ NeedSt w fb d m0 F n c wr) (fun v _ => 4 - lvlN (RowKit.intOf v))
  case atStart => exact ⟨n, rfl, ST.out⟩
  case round =>
    obtain ⟨c, rfl, t, m, F', hcn, ht, hne, hfew, hFA, hAf⟩ := hrel
    obtain ⟨l, f, hf, hl⟩ := node_find hcn
    have HP := Lib.hid (parent_ok hf hFA.span)
    have hl3 := node_lvl hcn
    obtain ⟨t, rfl⟩ : ∃ t', t = t' + 1 := ⟨t - 1, by omega⟩
    have hup := node_up hcn
    have HU := Lib.hid hup; have HNE := Lib.hid hne; have HFA := Lib.hid hFA; have HAF := Lib.hid hAf; have HFW := Lib.hid hfew
    clear hup hne hFA hAf hfew ST hf hl
    generalize hpq : (upN c) = pq at HP HU
    obtain ⟨p, q⟩ := pq
    have HPQ := Lib.hid hpq
    clear hpq
    dsimp only at HP HU
    go_wp2_with fail
    refine HP.out.mono ?_
    rintro e w1 ⟨rfl, hb⟩
    have hFA1 := HFA.out.below hb
    have hAf1 := HAF.out.trans (Aft.below (F := F') hb)
    have HFA1 := Lib.hid hFA1; have HAF1 := Lib.hid hAf1
    clear HFA HAF hb HP hAf1
    by_cases h6 : p = 600
    · have q1 : (p == 600) = true := beq_iff_eq.2 h6
      have H6 := Lib.hid h6
      clear h6 hFA1
      go_wp2_with fail
      refine bodyPost_ret (v := .tuple #[]) (by simp [results, Tryd.results29, go_sem]) rfl ?_
      refine ⟨rfl, F', ?_, HAF1.out⟩
      have e1 : needM (t + 1) m c = m := by unfold needM; rw [HPQ.out, if_pos H6.out]
      rw [← HNE.out, e1]; exact HFA1.out
    · have q1 : (p == 600) = false := beq_eq_false_iff_ne.2 h6
      obtain ⟨hpm, hpl⟩ := HU.out.resolve_left h6
      obtain ⟨db, mb, P, hin, hft⟩ := hFA1.ex
      have c0 := cell_blk_some hin.top (i := 0) rfl
      have c1 := cell_blk_some hin.top (i := 1) rfl
      have lk := hin.lookM p
      have HIN := Lib.hid hin; have HFT := Lib.hid hft
      have hne1 : needM (t + 1) m c = match m p with | some (a, u) => updM m p (some (a, u + 1)) | none => needM t (updM m p (some (0, 1))) p := by
        conv => lhs; unfold needM
        rw [HPQ.out, if_neg h6]
        rfl
      have HN1 := Lib.hid hne1
      clear hft hFA1 hne1
      cases hmp : m p with
      | some v =>
        obtain ⟨a, u⟩ := v
        obtain ⟨b, hpb, hbb⟩ := hin.at hmp
        obtain ⟨u0, u1⟩ := HFW.out p a u hmp
        rw [hpb] at lk
        have d1 := cell_blk_some hbb (i := 1) rfl
        have f1 := free_blk (i := 1) hbb
        have HM := Lib.hid hmp; have HPB := Lib.hid hpb
        clear hmp hpb hbb hin
        go_wp2_with fail
        refine bodyPost_ret (v := .tuple #[]) (by simp [results, Tryd.results29, go_sem]) rfl ?_
        have e1 := HN1.out
        rw [HM.out] at e1
        have hin2 := HIN.out.setMeta (i := 1) (v := .int .i64 (u + 1)) (a' := a) (u' := u + 1) HM.out HPB.out rfl
        refine ⟨rfl, F', ?_, HAF1.out.trans (Aft.same (S := fun x => x = b) ((Fr.refl (fun x => x = b) w1).setCell ⟨b, 1, none⟩ rfl _) fun x hx => ?_)⟩
        · rw [← HNE.out, e1]
          refine ⟨⟨db, mb, P, hin2, HFT.out⟩, fun x hx => by rw [size_set]; exact HFA1.out.lt x hx, HFA1.out.off, HFA1.out.span.fr ((Fr.refl (fun x => x = b) w1).setCell ⟨b, 1, none⟩ rfl _) fun e => HFA1.out.off ?_⟩
          rw [e]; exact HFT.out b (.inr (.inr (.inr ⟨p, HPB.out⟩)))
        · rw [hx]; exact HFT.out b (.inr (.inr (.inr ⟨p, HPB.out⟩)))
      | none =>
        have hpn := hin.gone hmp
        rw [hpn] at lk
        obtain ⟨w2, hup, hin2, hfr⟩ := hin.addMeta (w1 := w1.alloc (.cells #[.int .i64 0, .int .i64 1] 80)) hmp ((Fr.refl _ w1).alloc _) (blk_new rfl) (Nat.le_refl _)
        unfold ptrV at hup
        have HM := Lib.hid hmp; have HIN2 := Lib.hid hin2; have HFR := Lib.hid hfr
        clear hmp hpn hin hin2 hfr
        go_wp2_with fail
        go_roundw
        case rel =>
          have e1 := HN1.out
          rw [HM.out] at e1
          have hz : (w1.alloc (.cells #[.int .i64 0, .int .i64 1] 80)).heap.size = w1.heap.size + 1 := by simp
          have hmb : F' mb := HFT.out mb (.inr (.inr (.inl rfl)))
          have h12 : Aft w1 w2 F' (fun x => F' x ∨ x = w1.heap.size) := ⟨((Fr.refl F' w1).alloc _).trans (HFR.out.tell fun x hx => by rw [hx]; exact hmb), fun x hx => hx.imp id fun e => by omega⟩
          refine ⟨p, rfl, t, updM m p (some (0, 1)), fun x => F' x ∨ x = w1.heap.size, mem_nodes.2 (.inr hpm), by omega, e1.symm.trans HNE.out, HFW.out.upd (by omega), ⟨⟨db, mb, _, HIN2.out, fun x hx => ?_⟩, fun x hx => ?_, fun e => ?_, ?_⟩, HAF1.out.trans h12⟩
          · rcases hx with hx | hx | hx | ⟨k, hx⟩
            · exact .inl (HFT.out x (.inl hx))
            · exact .inl (HFT.out x (.inr (.inl hx)))
            · exact .inl (HFT.out x (.inr (.inr (.inl hx))))
            · by_cases e : k = p
              · rw [e, updP_self] at hx
                exact .inr (Option.some.inj hx).symm
              · rw [updP_other e] at hx
                exact .inl (HFT.out x (.inr (.inr (.inr ⟨k, hx⟩))))
          · have := HFR.out.size
            rcases hx with hx | hx
            · have := HFA1.out.lt x hx; omega
            · omega
          · rcases e with e | e
            · exact HFA1.out.off e
            · have := HFA1.out.span.lt; omega
          · exact (HFA1.out.span.alloc _).fr HFR.out fun e => HFA1.out.off (by rw [e]; exact hmb)
        case measure => simp only [RowKit.intOf]; omega
end Go.Proofs.YtklamgijikcnaaaDoor
