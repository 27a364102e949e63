/- Walk of the cache's evict. -/
import Derived.Test.YtjldocpjoiibjaaC12
namespace Go.Proofs.Ytjldocpjoiibjaa
open Go.RowKit

def hpush (Q : List Bf) (b : Bf) : List Bf := upQ (Q.length + 1) (Q ++ [b]) Q.length
theorem hpush_perm (Q : List Bf) (b : Bf) : (hpush Q b).Perm (Q ++ [b]) := upQ_perm _ _ _ (by simp)
theorem hpush_all : ∀ (K Q : List Bf), (K.foldl hpush Q).Perm (Q ++ K)
  | [], Q => by simp
  | b :: K, Q => by
    rw [List.foldl_cons]
    refine (hpush_all K (hpush Q b)).trans ?_
    refine ((hpush_perm Q b).append_right K).trans ?_
    simp
/-- The eldest ones come out till one may go: that one, what is left, those that came out and may not go. -/
def evQ : Nat → List Bf → List Bf → Option Bf × List Bf × List Bf
  | 0, Q, K => (none, Q, K)
  | f + 1, Q, K => if Q.length = 0 then (none, Q, K) else if ((popX Q).dirty || decide (0 < (popX Q).pins)) = true then evQ f (popR Q) (K ++ [popX Q]) else (some (popX Q), popR Q, K)
theorem evQ_nil (f : Nat) (Q K : List Bf) (h : Q.length = 0) : evQ f Q K = (none, Q, K) := by
  cases f with
  | zero => rfl
  | succ f => rw [evQ, if_pos h]

theorem Fr.setB (w : World) (b : Nat) (o : Obj) : Fr (fun y => y = b) w (setB w b o) :=
  ⟨rfl, rfl, rfl, by show w.heap.size ≤ (w.heap.setIfInBounds b o).size; simp, fun y _ hn => setB_other hn⟩
theorem erase_perm {α : Type} : ∀ (l : List α) (j : Nat) (x : α), l[j]? = some x → (x :: l.eraseIdx j).Perm l
  | [], _, _, h => by simp at h
  | y :: l, 0, x, h => by
    obtain rfl : y = x := by simpa using h
    exact .refl _
  | y :: l, j + 1, x, h => by
    have ih := erase_perm l j x (by simpa using h)
    rw [List.eraseIdx_cons_succ]
    exact (List.Perm.swap y x _).trans (ih.cons y)
structure Ev (w wr : World) (cb : Nat) (room stamp : Int) (mb : Nat) (v0 : Value) (F : Nat → Prop) (Q K : List Bf) (v kv : Value) : Prop where
  hq : HQ wr cb (cacheC room mb v stamp) Q v
  own : v.ownBlock = v0.ownBlock
  kep : wr.ownsRow w.heap.size 70 1 kv K.length (K.map Bf.ptr)
  kat : ∀ b ∈ K, b.ok ∧ ∃ i : Int, wr.heap[b.blk]? = some (.cells (b.cells i) 74 (0, 0))
  fr : Fr F w wr

theorem assert_buf2 (x : Value) (w : World) : (Instr.typeAssert (.iface 70 x) 20 70 false).run Try.prog w = .ok x w := assert_buf x w
theorem popR_length {Q : List Bf} (h : (popR Q ++ [popX Q]).Perm Q) : Q.length = (popR Q).length + 1 := by rw [← h.length_eq]; simp
theorem ownRow_grown {w w' : World} {B n : Nat} {v : Value} {xs : List Value} {e : TypeId} {S : Nat → Prop} (h : w.ownsRow B e 1 v n xs) (hf : Fr S w w') (hs : ∀ g, B ≤ g → ¬ S g) : w'.ownsRow B e 1 v n xs := by
  refine ⟨h.1, ?_⟩
  rcases h.2 with hn | ⟨g, cap, cur, rfl, h0, hg, r⟩
  · exact .inl hn
  · exact .inr ⟨g, cap, cur, rfl, h0, by rw [hf.block g (blk_lt hg) (hs g h0)]; exact hg, r⟩

set_option maxHeartbeats 8000000 in
set_option maxRecDepth 100000 in
theorem evict_any {w : World} {cb : Nat} {room stamp : Int} {Q0 : List Bf} {F : Nat → Prop} {mb : Nat} {v0 : Value} {E : List ((Int × Int) × Value)} (h : CIn w cb room stamp Q0 F mb v0 E) (hl : Q0.length ≤ 900000) :
    Calls Try.prog 27 #[.pointer (some ⟨cb, 0, none⟩)] w fun e w' => e = .returned (.int .i64 (if (evQ Q0.length Q0 []).1.isSome then 0 else 28)) ∧
      CAt w' cb room stamp ((evQ Q0.length Q0 []).2.2.foldl hpush (evQ Q0.length Q0 []).2.1) (Fx F w w') ∧ Fr F w w' := by
  obtain ⟨R, hR⟩ : ∃ R, R = evQ Q0.length Q0 [] := ⟨_, rfl⟩
  rw [← hR]
  obtain ⟨er, her⟩ : ∃ er : Int, er = if R.1.isSome then 0 else 28 := ⟨_, rfl⟩
  rw [← her]
  have HER := Lib.hid her
  have HR := Lib.hid hR; have H := Lib.hid h
  clear hR h her
  obtain ⟨i0, hi, hz0, hz1, hz2⟩ := info_parts infoPtr
  go_enter Try.func27, Try.ntmps27
  go_wp2_with fail
  go_loopg [3, 4] (Q0.length + 1) (fun f kv ev wr => ∃ Q K v, Ev w wr cb room stamp mb v0 F Q K v kv ∧ ((ev = .int .i64 28 ∧ Q.length < f ∧ evQ (f - 1) Q K = R ∧ Ents wr mb E ∧ (Q ++ K).Perm Q0) ∨
      (ev = .int .i64 0 ∧ ∃ x j, R = (some x, Q, K) ∧ E[j]? = some (x.key, x.ptr) ∧ Ents wr mb (E.eraseIdx j) ∧ (x :: (Q ++ K)).Perm Q0)))
  case atStart => exact ⟨Q0, [], v0, ⟨H.out.hq, rfl, World.ownsRow_nil _ _ _ _, fun b hb => (by cases hb), Fr.refl _ _⟩, .inl ⟨rfl, Nat.lt_succ_self _, HR.out.symm, H.out.mp, by simp⟩⟩
  case round =>
    obtain ⟨Q, K, v, hev, hcase⟩ := hrel
    obtain ⟨a, c, rfl⟩ := hev.hq.shape
    have c2 := cell_blk_some hev.hq.blk hev.hq.ptr
    have HEV := Lib.hid hev
    clear hev
    rcases hcase with ⟨rfl, hlt, hu, hm, hp⟩ | ⟨rfl, x, j, hx1, hx2, hx3, hx4⟩
    · have HU := Lib.hid hu; have HM := Lib.hid hm; have HP := Lib.hid hp
      clear hu hm hp
      by_cases h0 : Q.length = 0
      · have hr := HU.out
        rw [evQ_nil _ _ _ h0] at hr
        have HEQ := Lib.hid (show er = 28 by rw [HER.out, ← hr]; rfl)
        have HR2 := Lib.hid (show R.2 = (Q, K) by rw [← hr])
        obtain ⟨E', hE'⟩ : ∃ E', E' = E := ⟨_, rfl⟩
        have HME := Lib.hid (show Ents wr mb E' by rw [hE']; exact HM.out)
        have HLK := Lib.hid (show E'.Perm ((Q ++ K).map fun b => (b.key, b.ptr)) by rw [hE']; exact H.out.link.trans (HP.out.map _).symm)
        have HSB := Lib.hid (show ∃ X, (X ++ (Q ++ K)).Perm Q0 from ⟨[], HP.out⟩)
        clear hr hE' HU HM HP hlt
        obtain ⟨ka, kc, rfl⟩ : ∃ a c, u3 = .slice a K.length c := by
          rcases HEV.out.kep.2 with ⟨rfl, hk0⟩ | ⟨g, cap, cur, rfl, _⟩
          · exact ⟨none, 0, by rw [hk0]⟩
          · exact ⟨_, _, rfl⟩
        have HL := Lib.hid (qLen_any a Q.length c wr)
        have hkl : K.length ≤ 900000 := by
          obtain ⟨X, hX⟩ := HSB.out
          have := hX.length_eq
          simp only [List.length_append] at this; omega
        rw [h0] at HL c2
        clear hi hz0 hz1 hz2
        go_wp2_with fail
        refine HL.out.mono ?_
        rintro e w1 ⟨rfl, hw⟩
        obtain rfl := hw.symm
        go_wp2_with fail
        obtain ⟨sz, hsz⟩ : ∃ sz, sz = wr.heap.size := ⟨_, rfl⟩
        have hwr : w.heap.size ≤ sz := by rw [hsz]; exact HEV.out.fr.size
        have hkb : ∀ y, (Value.slice ka K.length kc).ownBlock = some y → w.heap.size ≤ y ∧ y < sz := fun y hy => by rw [hsz]; exact HEV.out.kep.lt y hy
        have HSZ := Lib.hid hsz
        clear hsz
        go_loopw [49] (fun i wx => ∃ (k : Nat) (Q' : List Bf) (v' : Value), k ≤ K.length ∧ i = .int .i64 k ∧ Q' = (K.take k).foldl hpush Q ∧ HQ wx cb (cacheC room mb v' stamp) Q' v' ∧ (v'.ownBlock = v0.ownBlock ∨ ∃ g, v'.ownBlock = some g ∧ sz ≤ g) ∧ Ents wx mb E' ∧
            wx.ownsRow w.heap.size 70 1 (.slice ka K.length kc) K.length (K.map Bf.ptr) ∧ (∀ b ∈ K.drop k, b.ok ∧ ∃ i : Int, wx.heap[b.blk]? = some (.cells (b.cells i) 74 (0, 0))) ∧ Fr F w wx ∧ sz ≤ wx.heap.size)
          (fun i _ => K.length - (intOf i).toNat)
        case atStart => exact ⟨0, Q, _, Nat.zero_le _, rfl, rfl, HEV.out.hq, .inl HEV.out.own, HME.out, HEV.out.kep, by rw [List.drop_zero]; exact HEV.out.kat, HEV.out.fr, by rw [HSZ.out]; exact Nat.le_refl _⟩
        case round =>
          obtain ⟨k, Q', v', hk, rfl, hQ', hq', ho', hm', hkep', hkat', hfr', hsz'⟩ := hrel
          have hperm : Q'.Perm (Q ++ K.take k) := by rw [hQ']; exact hpush_all _ _
          have hblkF : ∀ y, y ∈ (Q ++ K).map (·.blk) → F y ∧ y ∈ Q0.map (·.blk) := fun y hy => by
            obtain ⟨X, hX⟩ := HSB.out
            have hy2 : y ∈ Q0.map (·.blk) := (hX.map (·.blk)).mem_iff.1 (by rw [List.map_append]; exact List.mem_append_right _ hy)
            exact ⟨H.out.f4 y hy2, hy2⟩
          have hnd : ((Q ++ K).map (·.blk)).Nodup := by
            obtain ⟨X, hX⟩ := HSB.out
            have := (hX.map (·.blk)).nodup_iff.2 H.out.hq.nodup
            rw [List.map_append] at this
            exact (List.nodup_append.1 this).2.1
          have hQm : ∀ y, y ∈ Q'.map (·.blk) → y ∈ (Q ++ K).map (·.blk) := fun y hy => by
            have := (hperm.map (·.blk)).mem_iff.1 hy
            rw [List.map_append] at this ⊢
            rcases List.mem_append.1 this with h | h
            · exact List.mem_append_left _ h
            · refine List.mem_append_right _ ?_
              obtain ⟨b, hb, he⟩ := List.mem_map.1 h
              exact List.mem_map.2 ⟨b, List.mem_of_mem_take hb, he⟩
          have hown' : ∀ y, v'.ownBlock = some y → F y ∨ sz ≤ y := fun y hy => by
            rcases ho' with he | ⟨g, he, hg⟩
            · exact .inl (H.out.f3 y (by rw [← he]; exact hy))
            · rw [he] at hy; obtain rfl := Option.some.inj hy; exact .inr hg
          have HP' := Lib.hid hperm; have HBF := Lib.hid hblkF; have HND := Lib.hid hnd; have HQM := Lib.hid hQm; have HO' := Lib.hid hown'; have HQ' := Lib.hid hq'; have HOO := Lib.hid ho'; have HM' := Lib.hid hm'; have HKE := Lib.hid hkep'; have HKA := Lib.hid hkat'; have HF' := Lib.hid hfr'; have HQE := Lib.hid hQ'
          clear hperm hblkF hnd hQm hown' hq' ho' hm' hkep' hkat' hfr' hQ'
          by_cases hlt : k < K.length
          · obtain ⟨b, hb⟩ : ∃ b, K[k]? = some b := ⟨_, List.getElem?_eq_getElem hlt⟩
            have hbd : b ∈ K.drop k := by rw [List.drop_eq_getElem_cons hlt, (List.getElem?_eq_some_iff.1 hb).2]; exact List.mem_cons_self
            obtain ⟨hbok, bi, hbn⟩ := HKA.out b hbd
            obtain ⟨g, rfl⟩ : ∃ g, ka = some ⟨g, 0, none⟩ := by
              rcases HKE.out.2 with ⟨he, hk0⟩ | ⟨g, cap, cur, he, _⟩
              · omega
              · injection he with he _ _; exact ⟨g, he⟩
            have hcc := HKE.out.cells (g := g) rfl k b.ptr (by rw [List.getElem?_map, hb]; rfl)
            have hadd : (⟨g, 0, none⟩ : Addr).add k = ⟨g, k, none⟩ := by unfold Addr.add; split <;> simp_all
            rw [hadd] at hcc
            unfold Bf.ptr at hcc
            have hbKm : b.blk ∈ (Q ++ K).map (·.blk) := by rw [List.map_append]; exact List.mem_append_right _ (List.mem_map.2 ⟨b, List.mem_of_getElem? hb, rfl⟩)
            obtain ⟨hbF, hbQ0⟩ := HBF.out _ hbKm
            have hbw := H.out.lt _ hbF
            have hbQ' : b.blk ∉ Q'.map (·.blk) := fun hy => by
              have h1 := (HP'.out.map (·.blk)).mem_iff.1 hy
              have h2 := HND.out
              have h3 : Q ++ K = (Q ++ K.take k) ++ K.drop k := by rw [List.append_assoc, List.take_append_drop]
              rw [h3, List.map_append, List.nodup_append] at h2
              exact h2.2.2 _ h1 _ (List.mem_map.2 ⟨b, hbd, rfl⟩) rfl
            have hbcb : b.blk ≠ cb := fun e => H.out.hq.off1 (e ▸ hbQ0)
            have hbo : v'.ownBlock ≠ some b.blk := fun e => by
              rcases HOO.out with he | ⟨g2, he, hg2⟩
              · exact (H.out.hq.off2 b.blk (by rw [← he]; exact e)).2 hbQ0
              · rw [he] at e; obtain rfl := Option.some.inj e; omega
            have hql : Q'.length ≤ 900000 := by
              obtain ⟨X, hX⟩ := HSB.out
              have h1 := hX.length_eq
              have h2 := HP'.out.length_eq
              simp only [List.length_append, List.length_take] at h1 h2; omega
            have hpu := hPush_any HQ'.out (by rfl) hbok hbn hbQ' hbcb hbo hql
            unfold hv Bf.ptr at hpu
            have HPU := Lib.hid hpu
            have c2x := cell_blk_some HQ'.out.blk HQ'.out.ptr
            have hgb : g < sz := (hkb g rfl).2
            have hgw : w.heap.size ≤ g := (hkb g rfl).1
            have HB := Lib.hid hb; have HBO := Lib.hid hbo; have HBQ := Lib.hid hbQ'
            clear hpu hb hbo hbQ' hbn hbKm hadd
            go_wp2_with fail
            refine HPU.out.mono ?_
            rintro e w5 ⟨rfl, v5, hq5, hn5, ho5, hf5⟩
            have hS : ∀ y, (y = cb ∨ y = b.blk ∨ v'.ownBlock = some y ∨ y ∈ Q'.map (·.blk)) → F y ∨ sz ≤ y := fun y hy => by
              rcases hy with rfl | rfl | hy | hy
              · exact .inl H.out.f1
              · exact .inl hbF
              · exact HO'.out y hy
              · exact .inl (HBF.out y (HQM.out y hy)).1
            have hsz5 : sz ≤ w5.heap.size := Nat.le_trans hsz' hf5.size
            have hrel5 : ∃ (k' : Nat) (Q'' : List Bf) (v'' : Value), k' ≤ K.length ∧ Value.int .i64 ((k : Int) + 1) = .int .i64 k' ∧ Q'' = (K.take k').foldl hpush Q ∧ HQ w5 cb (cacheC room mb v'' stamp) Q'' v'' ∧ (v''.ownBlock = v0.ownBlock ∨ ∃ g, v''.ownBlock = some g ∧ sz ≤ g) ∧ Ents w5 mb E' ∧
                w5.ownsRow w.heap.size 70 1 (.slice (some ⟨g, 0, none⟩) K.length kc) K.length (K.map Bf.ptr) ∧ (∀ b ∈ K.drop k', b.ok ∧ ∃ i : Int, w5.heap[b.blk]? = some (.cells (b.cells i) 74 (0, 0))) ∧ Fr F w w5 ∧ sz ≤ w5.heap.size := by
              refine ⟨k + 1, hpush Q' b, v5, by omega, by simp, ?_, hq5, ?_, ?_, ?_, ?_, ?_, hsz5⟩
              · rw [List.take_add_one, HB.out, HQE.out]; simp
              · rcases ho5 with he | ⟨g5, he, hg5⟩
                · rw [he]; exact HOO.out
                · exact .inr ⟨g5, he, Nat.le_trans hsz' hg5⟩
              · refine HM'.out.frame hf5 fun hs => ?_
                rcases hs with hs | hs | hs | hs
                · exact H.out.mo1 hs
                · exact H.out.mo3 (hs ▸ hbQ0)
                · rcases HOO.out with he | ⟨g2, he, hg2⟩
                  · exact H.out.mo2 (by rw [← he]; exact hs)
                  · rw [he] at hs; obtain rfl := Option.some.inj hs
                    have := H.out.lt _ H.out.f2; omega
                · exact H.out.mo3 (HBF.out _ (HQM.out _ hs)).2
              · refine ⟨HKE.out.1, ?_⟩
                rcases HKE.out.2 with hn | ⟨g2, cap, cur, he, h0', hg2, r⟩
                · exact .inl hn
                · refine .inr ⟨g2, cap, cur, he, h0', ?_, r⟩
                  have hge : g = g2 := by injection he with he _ _; simpa using he
                  rw [hf5.block g2 (blk_lt hg2) fun hs => ?_]; exact hg2
                  rcases hs with hs | hs | hs | hs
                  · have := H.out.lt _ H.out.f1; omega
                  · omega
                  · rcases HOO.out with he2 | ⟨g3, he2, hg3⟩
                    · have := H.out.lt _ (H.out.f3 g2 (by rw [← he2]; exact hs)); omega
                    · rw [he2] at hs; obtain rfl := Option.some.inj hs; omega
                  · have := H.out.lt _ (HBF.out _ (HQM.out _ hs)).1; omega
              · intro b' hb'
                have hb'd : b' ∈ K.drop k := by
                  rw [List.drop_eq_getElem_cons hlt]; exact List.mem_cons_of_mem _ hb'
                obtain ⟨o1, i', o2⟩ := HKA.out b' hb'd
                refine ⟨o1, i', ?_⟩
                have hbm' : b'.blk ∈ (Q ++ K).map (·.blk) := by rw [List.map_append]; exact List.mem_append_right _ (List.mem_map.2 ⟨b', List.mem_of_mem_drop hb'd, rfl⟩)
                have hF0 := HBF.out _ hbm'
                rw [hf5.block b'.blk (blk_lt o2) fun hs => ?_]; exact o2
                have h3 : Q ++ K = (Q ++ K.take k) ++ K.drop k := by rw [List.append_assoc, List.take_append_drop]
                have h2 := HND.out
                rw [h3, List.map_append, List.nodup_append, List.drop_eq_getElem_cons hlt, (List.getElem?_eq_some_iff.1 HB.out).2, List.map_cons, List.nodup_cons] at h2
                rcases hs with hs | hs | hs | hs
                · exact H.out.hq.off1 (hs ▸ hF0.2)
                · exact h2.2.1.1 (hs ▸ List.mem_map.2 ⟨b', hb', rfl⟩)
                · rcases HOO.out with he | ⟨g2, he, hg2⟩
                  · exact (H.out.hq.off2 _ (by rw [← he]; exact hs)).2 hF0.2
                  · rw [he] at hs; obtain hs := Option.some.inj hs
                    have := H.out.lt _ hF0.1; omega
                · exact h2.2.2 _ ((HP'.out.map (·.blk)).mem_iff.1 hs) _ (List.mem_cons_of_mem _ (List.mem_map.2 ⟨b', hb', rfl⟩)) rfl
              · exact HF'.out.trans' hf5 fun y hy hs => by
                  rcases hS y hs with h | h
                  · exact h
                  · omega
            have HREL := Lib.hid hrel5
            clear hrel5 hq5 hn5 ho5 hf5 hS c2x hcc
            go_wp2_with fail
            go_roundw
            case rel => exact HREL.out
            case measure => simp [intOf]; omega
          · obtain rfl : k = K.length := by omega
            have hQe := HQE.out
            rw [List.take_length] at hQe
            have hpF := HP'.out
            rw [List.take_length] at hpF
            go_wp2_with fail
            go_ret
            rw [HR2.out]
            obtain ⟨X, hX⟩ := HSB.out
            have hkeys : (Q'.map Bf.key).Nodup := by
              have h1 := (hX.map Bf.key).nodup_iff.2 H.out.keys
              rw [List.map_append, List.nodup_append] at h1
              exact (hpF.map Bf.key).nodup_iff.2 h1.2.1
            refine ⟨by rw [HEQ.out]; rfl, ?_, HF'.out⟩
            show CAt _ cb room stamp (K.foldl hpush Q) _
            rw [← hQe]
            refine ⟨mb, v', E', HQ'.out, HM'.out, HLK.out.trans (hpF.map _).symm, hkeys, fun b hb u hu => H.out.fine b (hX.mem_iff.1 (List.mem_append_right _ (hpF.mem_iff.1 hb))) u hu, H.out.mo1, fun e => ?_, fun hs => H.out.mo3 (HBF.out _ (HQM.out _ hs)).2, .inl H.out.f1, .inl H.out.f2, fun y hy => ?_, fun y hy => .inl (HBF.out y (HQM.out y hy)).1, fun y hy => ?_⟩
            · rcases HOO.out with he | ⟨g2, he, hg2⟩
              · exact H.out.mo2 (by rw [← he]; exact e)
              · rw [he] at e; obtain rfl := Option.some.inj e
                have := H.out.lt _ H.out.f2; omega
            · rcases HO'.out y hy with h | h
              · exact .inl h
              · exact .inr ⟨by omega, (HQ'.out.own.lt y hy).2⟩
            · rcases hy with h | h
              · exact Nat.lt_of_lt_of_le (H.out.lt y h) HF'.out.size
              · exact h.2
      · obtain ⟨f, rfl⟩ : ∃ f, gk = f + 1 + 1 := ⟨gk - 2, by omega⟩
        have hu := HU.out
        rw [show f + 1 + 1 - 1 = f + 1 by omega, evQ, if_neg h0] at hu
        have HL := Lib.hid (qLen_any a Q.length c wr)
        have hql : Q.length ≤ 900000 := by
          have := HP.out.length_eq
          rw [List.length_append] at this; omega
        have HPO := Lib.hid (hPop_any HEV.out.hq (by omega) hql)
        have qg : decide ((0 : Int) < (Q.length : Int)) = true := dec_true (by omega)
        have ta := assert_buf
        have HU2 := Lib.hid hu
        have hlt2 : Q.length < f + 1 + 1 := hlt
        clear hu HU
        go_wp2_with fail
        refine HL.out.mono ?_
        rintro e w1 ⟨rfl, hw⟩
        obtain rfl := hw.symm
        unfold hv at HPO
        go_wp2_with fail
        refine HPO.out.mono ?_
        rintro e w2 ⟨rfl, hpp, ⟨v2, hq2, hn2, ho2⟩, hx2, hf2⟩
        obtain ⟨x, hx⟩ : ∃ x, popX Q = x := ⟨_, rfl⟩
        obtain ⟨Qr, hQr⟩ : ∃ Qr, popR Q = Qr := ⟨_, rfl⟩
        have hu := HU2.out
        rw [hx, hQr] at hu hpp
        rw [hx] at hx2
        rw [hQr] at hq2
        have hxm : x ∈ Q := hpp.mem_iff.1 (by simp)
        obtain ⟨jx, hjx⟩ := List.mem_iff_getElem?.1 hxm
        have hxok := (HEV.out.hq.buf jx x hjx).1
        have hrl : Q.length = Qr.length + 1 := by rw [← hpp.length_eq]; simp
        have c66 := cell_blk_some hx2 (Bf.at_dirty hxok _)
        have c67 := cell_blk_some hx2 (Bf.at_pins hxok _)
        rw [hx]
        unfold Bf.ptr
        have hqq : HQ w2 cb (cacheC room mb v2 stamp) Qr v2 := hq2
        have hF2 : ∀ y, (y = cb ∨ (Value.slice a Q.length c).ownBlock = some y ∨ y ∈ Q.map (·.blk)) → F y := fun y hy => by
          rcases hy with rfl | hy | hy
          · exact H.out.f1
          · exact H.out.f3 y (by rw [← HEV.out.own]; exact hy)
          · refine H.out.f4 y ?_
            have hp := HP.out.map (·.blk)
            rw [List.map_append] at hp
            exact hp.mem_iff.1 (List.mem_append_left _ hy)
        have hfr2 := HEV.out.fr.trans' hf2 fun y _ hy => hF2 y hy
        have hkep2 : w2.ownsRow w.heap.size 70 1 u3 K.length (K.map Bf.ptr) := ownRow_grown HEV.out.kep hf2 fun g hg hs => by
          have := H.out.lt g (hF2 g hs); omega
        have hpm := HP.out.map (·.blk)
        have hnd : ((Q ++ K).map (·.blk)).Nodup := hpm.nodup_iff.2 H.out.hq.nodup
        have hkat2 : ∀ b ∈ K, b.ok ∧ ∃ i : Int, w2.heap[b.blk]? = some (.cells (b.cells i) 74 (0, 0)) := fun b hb => by
          obtain ⟨o1, i, o2⟩ := HEV.out.kat b hb
          refine ⟨o1, i, ?_⟩
          rw [hf2.block b.blk (blk_lt o2) ?_]; exact o2
          have hbm : b.blk ∈ Q0.map (·.blk) := by
            rw [List.map_append] at hpm
            exact hpm.mem_iff.1 (List.mem_append_right _ (List.mem_map.2 ⟨b, hb, rfl⟩))
          rintro (hs | hs | hs)
          · exact H.out.hq.off1 (hs ▸ hbm)
          · exact (H.out.hq.off2 b.blk (by rw [← HEV.out.own]; exact hs)).2 hbm
          · rw [List.map_append, List.nodup_append] at hnd
            exact hnd.2.2 _ hs _ (List.mem_map.2 ⟨b, hb, rfl⟩) rfl
        have hmb2 : Ents w2 mb E := HM.out.frame hf2 fun hs => by
          rcases hs with hs | hs | hs
          · exact H.out.mo1 hs
          · exact H.out.mo2 (by rw [← HEV.out.own]; exact hs)
          · rw [List.map_append] at hpm
            exact H.out.mo3 (hpm.mem_iff.1 (List.mem_append_left _ hs))
        have hown2 : v2.ownBlock = v0.ownBlock := ho2.trans HEV.out.own
        have HQ2 := Lib.hid hqq; have FR2 := Lib.hid hfr2; have KEP2 := Lib.hid hkep2; have KAT2 := Lib.hid hkat2; have MB2 := Lib.hid hmb2; have OWN2 := Lib.hid hown2; have PP := Lib.hid hpp; have X2 := Lib.hid hx2; have HUU := Lib.hid hu
        have XOK := Lib.hid hxok; have RL := Lib.hid hrl
        have hrf : Qr.length < f + 1 := by omega
        clear hqq hfr2 hkep2 hkat2 hmb2 hown2 hpp hx2 hu hq2 hn2 ho2 hf2 hpm hnd hF2 hx hQr hxm hjx hxok hrl HPO HL HEV HM HU2 c2 hlt hlt2 qg
        cases hdp : (x.dirty || decide (0 < x.pins))
        · rw [Bool.or_eq_false_iff] at hdp
          obtain ⟨hd, hpz⟩ := hdp
          rw [hd] at c66
          have hu := HUU.out
          rw [hd, hpz, if_neg (by simp)] at hu
          have k0 := cell_blk_some X2.out (i := 0) (v := .int .i64 x.k1) rfl
          have k1 := cell_blk_some X2.out (i := 1) (v := .int .i64 x.k2) rfl
          have c1 : w2.cell? ⟨cb, 1, none⟩ = some (.map (some mb)) := cell_blk_some HQ2.out.blk rfl
          have hmd : Ents w2.drew mb E := MB2.out
          have hxm : (x.key, x.ptr) ∈ E := by
            refine H.out.link.mem_iff.2 (List.mem_map.2 ⟨x, ?_, rfl⟩)
            exact HP.out.mem_iff.1 (List.mem_append_left _ (PP.out.mem_iff.1 (by simp)))
          obtain ⟨o, j, hdel, hj, hme⟩ := run_delete_ents Try.underlying65 hmd (H.out.ekeys.nodup_iff.2 H.out.keys) hxm
          unfold keyV Bf.key at hdel
          have HU3 := Lib.hid hu; have HJ := Lib.hid hj; have HME := Lib.hid hme
          clear hu hj hme hmd hxm hd
          go_wp2_with fail
          go_still_tail 8, (by kernel_rfl)
          change wpList _ _ _ _ _ w2.drew
          have hq3 := HQ2.out.drew
          have hfr3 := FR2.out.drew
          have hkep3 : w2.drew.ownsRow w.heap.size 70 1 u3 K.length (K.map Bf.ptr) := KEP2.out
          have hkat3 : ∀ b ∈ K, b.ok ∧ ∃ i : Int, w2.drew.heap[b.blk]? = some (.cells (b.cells i) 74 (0, 0)) := KAT2.out
          have hmsz : mb < w2.drew.heap.size := Nat.lt_of_lt_of_le (H.out.lt mb H.out.f2) FR2.out.size
          clear k0 k1 c1 c66 c67
          generalize w2.drew = w3 at hdel HME hq3 hfr3 hkep3 hkat3 hmsz ⊢
          obtain ⟨w4, hw4⟩ : ∃ w4, setB w3 mb o = w4 := ⟨_, rfl⟩
          rw [hw4] at hdel HME
          have hf4 : Fr (fun y => y = mb) w3 w4 := by rw [← hw4]; exact Fr.setB _ _ _
          have hsub : ∀ y, y ∈ (Q ++ K).map (·.blk) → y ≠ mb := fun y hy e => H.out.mo3 ((HP.out.map (·.blk)).mem_iff.1 (e ▸ hy))
          have hqrm : ∀ y, y ∈ Qr.map (·.blk) → y ∈ (Q ++ K).map (·.blk) := fun y hy => by
            rw [List.map_append]
            refine List.mem_append_left _ ((PP.out.map (·.blk)).mem_iff.1 ?_)
            rw [List.map_append]; exact List.mem_append_left _ hy
          have hev4 : Ev w w4 cb room stamp mb v0 F Qr K v2 u3 := by
            refine ⟨hq3.frame hf4 (fun g hg e => H.out.mo2 (by rw [← OWN2.out, hg, e])) (fun y hy => hsub y (hqrm y hy)) ?_ hq3.ptr, OWN2.out, ownRow_grown hkep3 hf4 (fun g hg e => ?_), fun b hb => ?_, hfr3.trans' hf4 fun y _ hy => ?_⟩
            · rw [hf4.block cb (blk_lt hq3.blk) (fun e => H.out.mo1 e.symm)]; exact hq3.blk
            · have := H.out.lt mb H.out.f2; omega
            · obtain ⟨o1, i, o2⟩ := hkat3 b hb
              refine ⟨o1, i, ?_⟩
              rw [hf4.block b.blk (blk_lt o2) (hsub _ (by rw [List.map_append]; exact List.mem_append_right _ (List.mem_map.2 ⟨b, hb, rfl⟩)))]; exact o2
            · rw [show y = mb from hy]; exact H.out.f2
          have hperm : (x :: (Qr ++ K)).Perm Q0 := by
            refine List.Perm.trans ?_ HP.out
            refine List.Perm.trans ?_ (PP.out.append_right K)
            rw [List.append_assoc]
            exact (List.perm_middle (a := x) (l₁ := Qr) (l₂ := K)).symm
          have HEV4 := Lib.hid hev4; have HPM := Lib.hid hperm
          clear hq3 hfr3 hkep3 hkat3 hmsz hw4 hf4 hsub hqrm hev4 hperm HUU HQ2 FR2 KEP2 KAT2 MB2 X2 XOK
          go_wp2_with fail
          go_roundg f
          case rel => exact ⟨Qr, K, v2, HEV4.out, .inr ⟨rfl, x, j, HU3.out.symm, HJ.out, HME.out, HPM.out⟩⟩
          all_goals omega
        · have hu := HUU.out
          rw [hdp, if_pos rfl] at hu
          have hdd : x.dirty = true ∨ (x.dirty = false ∧ decide (0 < x.pins) = true) := by
            cases hd : x.dirty
            · rw [hd, Bool.false_or] at hdp; exact .inr ⟨rfl, hdp⟩
            · exact .inl rfl
          have hown := KEP2.out.alloc (Obj.cells #[Value.pointer (some ⟨x.blk, 0, none⟩)] 70)
          have HOW := Lib.hid hown; have HU3 := Lib.hid hu
          have hkl : K.length ≤ 900000 := by
            have := HP.out.length_eq
            rw [List.length_append] at this; omega
          have hsz0 := FR2.out.size
          clear hown hu hdp
          rcases hdd with hd | ⟨hd, hpz⟩
          all_goals
            rw [hd] at c66
            clear hd
            go_wp2_with (at_builtin; refine wpList_append_own _ rfl _ _ 66 rfl w.heap.size 70 i0 (.pointer none) 1 8 Try.underlying66 hi hz0 hz1 hz2 rfl (by decide) _ _ _ rfl HOW.out ⟨w2.heap.size, 0, none⟩ 1 1 [.pointer (some ⟨x.blk, 0, none⟩)] rfl rfl ?c1 ?c2 ?c3 ?c4 ?c5 ?_)
            case c1 => exact cell_one_new _ _ _
            case c2 => intro u hu; simp at hu; subst hu; rfl
            case c3 => unfold maxLen; omega
            case c4 => omega
            case c5 => simp; omega
            intro kv w5 hk5 hg5 _
            have hf5 : Fr (fun y => w.heap.size ≤ y) w2 w5 := by
              refine ⟨hg5.os, hg5.tape, hg5.output, Nat.le_trans (by simp) hg5.size, fun y hy hn => ?_⟩
              rw [hg5.block y (by simp; omega) (fun e => hn (HOW.out.lt y e.symm).1)]
              show (w2.heap.push _)[_]? = _
              rw [Array.getElem?_push, if_neg (by omega)]
            have hnot : ∀ y, F y → ¬ w.heap.size ≤ y := fun y hy e => by have := H.out.lt y hy; omega
            have hbF : ∀ y, y ∈ (Q ++ K).map (·.blk) → F y := fun y hy => H.out.f4 y ((HP.out.map (·.blk)).mem_iff.1 hy)
            have hqr : ∀ y, y ∈ Qr.map (·.blk) → y ∈ (Q ++ K).map (·.blk) := fun y hy => by
              rw [List.map_append]
              refine List.mem_append_left _ ((PP.out.map (·.blk)).mem_iff.1 ?_)
              rw [List.map_append]; exact List.mem_append_left _ hy
            have hxm : x.blk ∈ (Q ++ K).map (·.blk) := by
              rw [List.map_append]
              refine List.mem_append_left _ ((PP.out.map (·.blk)).mem_iff.1 ?_)
              rw [List.map_append]; simp
            have hev5 : Ev w w5 cb room stamp mb v0 F Qr (K ++ [x]) v2 kv := by
              refine ⟨HQ2.out.frame hf5 (fun g hg => hnot g (H.out.f3 g (by rw [← OWN2.out]; exact hg))) (fun y hy => hnot y (hbF y (hqr y hy))) ?_ HQ2.out.ptr, OWN2.out, by simpa [Bf.ptr] using hk5, fun b hb => ?_, FR2.out.trans' hf5 fun y hy hs => ?_⟩
              · rw [hf5.block cb (blk_lt HQ2.out.blk) (hnot cb H.out.f1)]; exact HQ2.out.blk
              · rcases List.mem_append.1 hb with hb | hb
                · obtain ⟨o1, i, o2⟩ := KAT2.out b hb
                  refine ⟨o1, i, ?_⟩
                  rw [hf5.block b.blk (blk_lt o2) (hnot _ (hbF _ (by rw [List.map_append]; exact List.mem_append_right _ (List.mem_map.2 ⟨b, hb, rfl⟩))))]; exact o2
                · simp at hb; subst hb
                  refine ⟨XOK.out, ((Q.length - 1 : Nat) : Int), ?_⟩
                  rw [hf5.block b.blk (blk_lt X2.out) (hnot _ (hbF _ hxm))]; exact X2.out
              · exact absurd hs (by omega)
            have hmb5 : Ents w5 mb E := MB2.out.frame hf5 (hnot mb H.out.f2)
            have hperm : (Qr ++ (K ++ [x])).Perm Q0 := by
              refine List.Perm.trans ?_ HP.out
              refine List.Perm.trans ?_ (PP.out.append_right K)
              rw [List.append_assoc]
              exact List.Perm.append_left Qr List.perm_append_comm
            have HEV5 := Lib.hid hev5; have HMB5 := Lib.hid hmb5; have HPM := Lib.hid hperm
            clear hk5 hg5 hf5 hnot hbF hqr hxm hev5 hmb5 hperm HUU HQ2 FR2 KEP2 KAT2 MB2 X2 XOK HOW
            go_wp2_with fail
            go_roundg (f + 1)
            case rel => exact ⟨Qr, K ++ [x], v2, HEV5.out, .inl ⟨rfl, hrf, HU3.out, HMB5.out, HPM.out⟩⟩
            all_goals omega
    · have HEQ := Lib.hid (show er = 0 by rw [HER.out, hx1]; rfl)
      have HR2 := Lib.hid (show R.2 = (Q, K) by rw [hx1])
      obtain ⟨E', hE'⟩ : ∃ E', E' = E.eraseIdx j := ⟨_, rfl⟩
      have HME := Lib.hid (show Ents wr mb E' by rw [hE']; exact hx3)
      have HLK := Lib.hid (show E'.Perm ((Q ++ K).map fun b => (b.key, b.ptr)) by
        rw [hE']
        have h1 := H.out.link.trans (hx4.map fun b => (b.key, b.ptr)).symm
        have h2 := erase_perm E j _ hx2
        exact List.Perm.cons_inv (h2.trans h1))
      have HSB := Lib.hid (show ∃ X, (X ++ (Q ++ K)).Perm Q0 from ⟨[x], hx4⟩)
      clear hE' hx1 hx2 hx3 hx4
      by_cases h0 : Q.length = 0
      · obtain ⟨ka, kc, rfl⟩ : ∃ a c, u3 = .slice a K.length c := by
          rcases HEV.out.kep.2 with ⟨rfl, hk0⟩ | ⟨g, cap, cur, rfl, _⟩
          · exact ⟨none, 0, by rw [hk0]⟩
          · exact ⟨_, _, rfl⟩
        have HL := Lib.hid (qLen_any a Q.length c wr)
        have hkl : K.length ≤ 900000 := by
          obtain ⟨X, hX⟩ := HSB.out
          have := hX.length_eq
          simp only [List.length_append] at this; omega
        rw [h0] at HL c2
        clear hi hz0 hz1 hz2
        go_wp2_with fail
        refine HL.out.mono ?_
        rintro e w1 ⟨rfl, hw⟩
        obtain rfl := hw.symm
        go_wp2_with fail
        obtain ⟨sz, hsz⟩ : ∃ sz, sz = wr.heap.size := ⟨_, rfl⟩
        have hwr : w.heap.size ≤ sz := by rw [hsz]; exact HEV.out.fr.size
        have hkb : ∀ y, (Value.slice ka K.length kc).ownBlock = some y → w.heap.size ≤ y ∧ y < sz := fun y hy => by rw [hsz]; exact HEV.out.kep.lt y hy
        have HSZ := Lib.hid hsz
        clear hsz
        go_loopw [49] (fun i wx => ∃ (k : Nat) (Q' : List Bf) (v' : Value), k ≤ K.length ∧ i = .int .i64 k ∧ Q' = (K.take k).foldl hpush Q ∧ HQ wx cb (cacheC room mb v' stamp) Q' v' ∧ (v'.ownBlock = v0.ownBlock ∨ ∃ g, v'.ownBlock = some g ∧ sz ≤ g) ∧ Ents wx mb E' ∧
            wx.ownsRow w.heap.size 70 1 (.slice ka K.length kc) K.length (K.map Bf.ptr) ∧ (∀ b ∈ K.drop k, b.ok ∧ ∃ i : Int, wx.heap[b.blk]? = some (.cells (b.cells i) 74 (0, 0))) ∧ Fr F w wx ∧ sz ≤ wx.heap.size)
          (fun i _ => K.length - (intOf i).toNat)
        case atStart => exact ⟨0, Q, _, Nat.zero_le _, rfl, rfl, HEV.out.hq, .inl HEV.out.own, HME.out, HEV.out.kep, by rw [List.drop_zero]; exact HEV.out.kat, HEV.out.fr, by rw [HSZ.out]; exact Nat.le_refl _⟩
        case round =>
          obtain ⟨k, Q', v', hk, rfl, hQ', hq', ho', hm', hkep', hkat', hfr', hsz'⟩ := hrel
          have hperm : Q'.Perm (Q ++ K.take k) := by rw [hQ']; exact hpush_all _ _
          have hblkF : ∀ y, y ∈ (Q ++ K).map (·.blk) → F y ∧ y ∈ Q0.map (·.blk) := fun y hy => by
            obtain ⟨X, hX⟩ := HSB.out
            have hy2 : y ∈ Q0.map (·.blk) := (hX.map (·.blk)).mem_iff.1 (by rw [List.map_append]; exact List.mem_append_right _ hy)
            exact ⟨H.out.f4 y hy2, hy2⟩
          have hnd : ((Q ++ K).map (·.blk)).Nodup := by
            obtain ⟨X, hX⟩ := HSB.out
            have := (hX.map (·.blk)).nodup_iff.2 H.out.hq.nodup
            rw [List.map_append] at this
            exact (List.nodup_append.1 this).2.1
          have hQm : ∀ y, y ∈ Q'.map (·.blk) → y ∈ (Q ++ K).map (·.blk) := fun y hy => by
            have := (hperm.map (·.blk)).mem_iff.1 hy
            rw [List.map_append] at this ⊢
            rcases List.mem_append.1 this with h | h
            · exact List.mem_append_left _ h
            · refine List.mem_append_right _ ?_
              obtain ⟨b, hb, he⟩ := List.mem_map.1 h
              exact List.mem_map.2 ⟨b, List.mem_of_mem_take hb, he⟩
          have hown' : ∀ y, v'.ownBlock = some y → F y ∨ sz ≤ y := fun y hy => by
            rcases ho' with he | ⟨g, he, hg⟩
            · exact .inl (H.out.f3 y (by rw [← he]; exact hy))
            · rw [he] at hy; obtain rfl := Option.some.inj hy; exact .inr hg
          have HP' := Lib.hid hperm; have HBF := Lib.hid hblkF; have HND := Lib.hid hnd; have HQM := Lib.hid hQm; have HO' := Lib.hid hown'; have HQ' := Lib.hid hq'; have HOO := Lib.hid ho'; have HM' := Lib.hid hm'; have HKE := Lib.hid hkep'; have HKA := Lib.hid hkat'; have HF' := Lib.hid hfr'; have HQE := Lib.hid hQ'
          clear hperm hblkF hnd hQm hown' hq' ho' hm' hkep' hkat' hfr' hQ'
          by_cases hlt : k < K.length
          · obtain ⟨b, hb⟩ : ∃ b, K[k]? = some b := ⟨_, List.getElem?_eq_getElem hlt⟩
            have hbd : b ∈ K.drop k := by rw [List.drop_eq_getElem_cons hlt, (List.getElem?_eq_some_iff.1 hb).2]; exact List.mem_cons_self
            obtain ⟨hbok, bi, hbn⟩ := HKA.out b hbd
            obtain ⟨g, rfl⟩ : ∃ g, ka = some ⟨g, 0, none⟩ := by
              rcases HKE.out.2 with ⟨he, hk0⟩ | ⟨g, cap, cur, he, _⟩
              · omega
              · injection he with he _ _; exact ⟨g, he⟩
            have hcc := HKE.out.cells (g := g) rfl k b.ptr (by rw [List.getElem?_map, hb]; rfl)
            have hadd : (⟨g, 0, none⟩ : Addr).add k = ⟨g, k, none⟩ := by unfold Addr.add; split <;> simp_all
            rw [hadd] at hcc
            unfold Bf.ptr at hcc
            have hbKm : b.blk ∈ (Q ++ K).map (·.blk) := by rw [List.map_append]; exact List.mem_append_right _ (List.mem_map.2 ⟨b, List.mem_of_getElem? hb, rfl⟩)
            obtain ⟨hbF, hbQ0⟩ := HBF.out _ hbKm
            have hbw := H.out.lt _ hbF
            have hbQ' : b.blk ∉ Q'.map (·.blk) := fun hy => by
              have h1 := (HP'.out.map (·.blk)).mem_iff.1 hy
              have h2 := HND.out
              have h3 : Q ++ K = (Q ++ K.take k) ++ K.drop k := by rw [List.append_assoc, List.take_append_drop]
              rw [h3, List.map_append, List.nodup_append] at h2
              exact h2.2.2 _ h1 _ (List.mem_map.2 ⟨b, hbd, rfl⟩) rfl
            have hbcb : b.blk ≠ cb := fun e => H.out.hq.off1 (e ▸ hbQ0)
            have hbo : v'.ownBlock ≠ some b.blk := fun e => by
              rcases HOO.out with he | ⟨g2, he, hg2⟩
              · exact (H.out.hq.off2 b.blk (by rw [← he]; exact e)).2 hbQ0
              · rw [he] at e; obtain rfl := Option.some.inj e; omega
            have hql : Q'.length ≤ 900000 := by
              obtain ⟨X, hX⟩ := HSB.out
              have h1 := hX.length_eq
              have h2 := HP'.out.length_eq
              simp only [List.length_append, List.length_take] at h1 h2; omega
            have hpu := hPush_any HQ'.out (by rfl) hbok hbn hbQ' hbcb hbo hql
            unfold hv Bf.ptr at hpu
            have HPU := Lib.hid hpu
            have c2x := cell_blk_some HQ'.out.blk HQ'.out.ptr
            have hgb : g < sz := (hkb g rfl).2
            have hgw : w.heap.size ≤ g := (hkb g rfl).1
            have HB := Lib.hid hb; have HBO := Lib.hid hbo; have HBQ := Lib.hid hbQ'
            clear hpu hb hbo hbQ' hbn hbKm hadd
            go_wp2_with fail
            refine HPU.out.mono ?_
            rintro e w5 ⟨rfl, v5, hq5, hn5, ho5, hf5⟩
            have hS : ∀ y, (y = cb ∨ y = b.blk ∨ v'.ownBlock = some y ∨ y ∈ Q'.map (·.blk)) → F y ∨ sz ≤ y := fun y hy => by
              rcases hy with rfl | rfl | hy | hy
              · exact .inl H.out.f1
              · exact .inl hbF
              · exact HO'.out y hy
              · exact .inl (HBF.out y (HQM.out y hy)).1
            have hsz5 : sz ≤ w5.heap.size := Nat.le_trans hsz' hf5.size
            have hrel5 : ∃ (k' : Nat) (Q'' : List Bf) (v'' : Value), k' ≤ K.length ∧ Value.int .i64 ((k : Int) + 1) = .int .i64 k' ∧ Q'' = (K.take k').foldl hpush Q ∧ HQ w5 cb (cacheC room mb v'' stamp) Q'' v'' ∧ (v''.ownBlock = v0.ownBlock ∨ ∃ g, v''.ownBlock = some g ∧ sz ≤ g) ∧ Ents w5 mb E' ∧
                w5.ownsRow w.heap.size 70 1 (.slice (some ⟨g, 0, none⟩) K.length kc) K.length (K.map Bf.ptr) ∧ (∀ b ∈ K.drop k', b.ok ∧ ∃ i : Int, w5.heap[b.blk]? = some (.cells (b.cells i) 74 (0, 0))) ∧ Fr F w w5 ∧ sz ≤ w5.heap.size := by
              refine ⟨k + 1, hpush Q' b, v5, by omega, by simp, ?_, hq5, ?_, ?_, ?_, ?_, ?_, hsz5⟩
              · rw [List.take_add_one, HB.out, HQE.out]; simp
              · rcases ho5 with he | ⟨g5, he, hg5⟩
                · rw [he]; exact HOO.out
                · exact .inr ⟨g5, he, Nat.le_trans hsz' hg5⟩
              · refine HM'.out.frame hf5 fun hs => ?_
                rcases hs with hs | hs | hs | hs
                · exact H.out.mo1 hs
                · exact H.out.mo3 (hs ▸ hbQ0)
                · rcases HOO.out with he | ⟨g2, he, hg2⟩
                  · exact H.out.mo2 (by rw [← he]; exact hs)
                  · rw [he] at hs; obtain rfl := Option.some.inj hs
                    have := H.out.lt _ H.out.f2; omega
                · exact H.out.mo3 (HBF.out _ (HQM.out _ hs)).2
              · refine ⟨HKE.out.1, ?_⟩
                rcases HKE.out.2 with hn | ⟨g2, cap, cur, he, h0', hg2, r⟩
                · exact .inl hn
                · refine .inr ⟨g2, cap, cur, he, h0', ?_, r⟩
                  have hge : g = g2 := by injection he with he _ _; simpa using he
                  rw [hf5.block g2 (blk_lt hg2) fun hs => ?_]; exact hg2
                  rcases hs with hs | hs | hs | hs
                  · have := H.out.lt _ H.out.f1; omega
                  · omega
                  · rcases HOO.out with he2 | ⟨g3, he2, hg3⟩
                    · have := H.out.lt _ (H.out.f3 g2 (by rw [← he2]; exact hs)); omega
                    · rw [he2] at hs; obtain rfl := Option.some.inj hs; omega
                  · have := H.out.lt _ (HBF.out _ (HQM.out _ hs)).1; omega
              · intro b' hb'
                have hb'd : b' ∈ K.drop k := by
                  rw [List.drop_eq_getElem_cons hlt]; exact List.mem_cons_of_mem _ hb'
                obtain ⟨o1, i', o2⟩ := HKA.out b' hb'd
                refine ⟨o1, i', ?_⟩
                have hbm' : b'.blk ∈ (Q ++ K).map (·.blk) := by rw [List.map_append]; exact List.mem_append_right _ (List.mem_map.2 ⟨b', List.mem_of_mem_drop hb'd, rfl⟩)
                have hF0 := HBF.out _ hbm'
                rw [hf5.block b'.blk (blk_lt o2) fun hs => ?_]; exact o2
                have h3 : Q ++ K = (Q ++ K.take k) ++ K.drop k := by rw [List.append_assoc, List.take_append_drop]
                have h2 := HND.out
                rw [h3, List.map_append, List.nodup_append, List.drop_eq_getElem_cons hlt, (List.getElem?_eq_some_iff.1 HB.out).2, List.map_cons, List.nodup_cons] at h2
                rcases hs with hs | hs | hs | hs
                · exact H.out.hq.off1 (hs ▸ hF0.2)
                · exact h2.2.1.1 (hs ▸ List.mem_map.2 ⟨b', hb', rfl⟩)
                · rcases HOO.out with he | ⟨g2, he, hg2⟩
                  · exact (H.out.hq.off2 _ (by rw [← he]; exact hs)).2 hF0.2
                  · rw [he] at hs; obtain hs := Option.some.inj hs
                    have := H.out.lt _ hF0.1; omega
                · exact h2.2.2 _ ((HP'.out.map (·.blk)).mem_iff.1 hs) _ (List.mem_cons_of_mem _ (List.mem_map.2 ⟨b', hb', rfl⟩)) rfl
              · exact HF'.out.trans' hf5 fun y hy hs => by
                  rcases hS y hs with h | h
                  · exact h
                  · omega
            have HREL := Lib.hid hrel5
            clear hrel5 hq5 hn5 ho5 hf5 hS c2x hcc
            go_wp2_with fail
            go_roundw
            case rel => exact HREL.out
            case measure => simp [intOf]; omega
          · obtain rfl : k = K.length := by omega
            have hQe := HQE.out
            rw [List.take_length] at hQe
            have hpF := HP'.out
            rw [List.take_length] at hpF
            go_wp2_with fail
            go_ret
            rw [HR2.out]
            obtain ⟨X, hX⟩ := HSB.out
            have hkeys : (Q'.map Bf.key).Nodup := by
              have h1 := (hX.map Bf.key).nodup_iff.2 H.out.keys
              rw [List.map_append, List.nodup_append] at h1
              exact (hpF.map Bf.key).nodup_iff.2 h1.2.1
            refine ⟨by rw [HEQ.out]; rfl, ?_, HF'.out⟩
            show CAt _ cb room stamp (K.foldl hpush Q) _
            rw [← hQe]
            refine ⟨mb, v', E', HQ'.out, HM'.out, HLK.out.trans (hpF.map _).symm, hkeys, fun b hb u hu => H.out.fine b (hX.mem_iff.1 (List.mem_append_right _ (hpF.mem_iff.1 hb))) u hu, H.out.mo1, fun e => ?_, fun hs => H.out.mo3 (HBF.out _ (HQM.out _ hs)).2, .inl H.out.f1, .inl H.out.f2, fun y hy => ?_, fun y hy => .inl (HBF.out y (HQM.out y hy)).1, fun y hy => ?_⟩
            · rcases HOO.out with he | ⟨g2, he, hg2⟩
              · exact H.out.mo2 (by rw [← he]; exact e)
              · rw [he] at e; obtain rfl := Option.some.inj e
                have := H.out.lt _ H.out.f2; omega
            · rcases HO'.out y hy with h | h
              · exact .inl h
              · exact .inr ⟨by omega, (HQ'.out.own.lt y hy).2⟩
            · rcases hy with h | h
              · exact Nat.lt_of_lt_of_le (H.out.lt y h) HF'.out.size
              · exact h.2
      · obtain ⟨ka, kc, rfl⟩ : ∃ a c, u3 = .slice a K.length c := by
          rcases HEV.out.kep.2 with ⟨rfl, hk0⟩ | ⟨g, cap, cur, rfl, _⟩
          · exact ⟨none, 0, by rw [hk0]⟩
          · exact ⟨_, _, rfl⟩
        have HL := Lib.hid (qLen_any a Q.length c wr)
        have hkl : K.length ≤ 900000 := by
          obtain ⟨X, hX⟩ := HSB.out
          have := hX.length_eq
          simp only [List.length_append] at this; omega
        have qg : decide ((0 : Int) < (Q.length : Int)) = true := dec_true (by omega)
        clear hi hz0 hz1 hz2
        go_wp2_with fail
        refine HL.out.mono ?_
        rintro e w1 ⟨rfl, hw⟩
        obtain rfl := hw.symm
        go_wp2_with fail
        obtain ⟨sz, hsz⟩ : ∃ sz, sz = wr.heap.size := ⟨_, rfl⟩
        have hwr : w.heap.size ≤ sz := by rw [hsz]; exact HEV.out.fr.size
        have hkb : ∀ y, (Value.slice ka K.length kc).ownBlock = some y → w.heap.size ≤ y ∧ y < sz := fun y hy => by rw [hsz]; exact HEV.out.kep.lt y hy
        have HSZ := Lib.hid hsz
        clear hsz
        go_loopw [49] (fun i wx => ∃ (k : Nat) (Q' : List Bf) (v' : Value), k ≤ K.length ∧ i = .int .i64 k ∧ Q' = (K.take k).foldl hpush Q ∧ HQ wx cb (cacheC room mb v' stamp) Q' v' ∧ (v'.ownBlock = v0.ownBlock ∨ ∃ g, v'.ownBlock = some g ∧ sz ≤ g) ∧ Ents wx mb E' ∧
            wx.ownsRow w.heap.size 70 1 (.slice ka K.length kc) K.length (K.map Bf.ptr) ∧ (∀ b ∈ K.drop k, b.ok ∧ ∃ i : Int, wx.heap[b.blk]? = some (.cells (b.cells i) 74 (0, 0))) ∧ Fr F w wx ∧ sz ≤ wx.heap.size)
          (fun i _ => K.length - (intOf i).toNat)
        case atStart => exact ⟨0, Q, _, Nat.zero_le _, rfl, rfl, HEV.out.hq, .inl HEV.out.own, HME.out, HEV.out.kep, by rw [List.drop_zero]; exact HEV.out.kat, HEV.out.fr, by rw [HSZ.out]; exact Nat.le_refl _⟩
        case round =>
          obtain ⟨k, Q', v', hk, rfl, hQ', hq', ho', hm', hkep', hkat', hfr', hsz'⟩ := hrel
          have hperm : Q'.Perm (Q ++ K.take k) := by rw [hQ']; exact hpush_all _ _
          have hblkF : ∀ y, y ∈ (Q ++ K).map (·.blk) → F y ∧ y ∈ Q0.map (·.blk) := fun y hy => by
            obtain ⟨X, hX⟩ := HSB.out
            have hy2 : y ∈ Q0.map (·.blk) := (hX.map (·.blk)).mem_iff.1 (by rw [List.map_append]; exact List.mem_append_right _ hy)
            exact ⟨H.out.f4 y hy2, hy2⟩
          have hnd : ((Q ++ K).map (·.blk)).Nodup := by
            obtain ⟨X, hX⟩ := HSB.out
            have := (hX.map (·.blk)).nodup_iff.2 H.out.hq.nodup
            rw [List.map_append] at this
            exact (List.nodup_append.1 this).2.1
          have hQm : ∀ y, y ∈ Q'.map (·.blk) → y ∈ (Q ++ K).map (·.blk) := fun y hy => by
            have := (hperm.map (·.blk)).mem_iff.1 hy
            rw [List.map_append] at this ⊢
            rcases List.mem_append.1 this with h | h
            · exact List.mem_append_left _ h
            · refine List.mem_append_right _ ?_
              obtain ⟨b, hb, he⟩ := List.mem_map.1 h
              exact List.mem_map.2 ⟨b, List.mem_of_mem_take hb, he⟩
          have hown' : ∀ y, v'.ownBlock = some y → F y ∨ sz ≤ y := fun y hy => by
            rcases ho' with he | ⟨g, he, hg⟩
            · exact .inl (H.out.f3 y (by rw [← he]; exact hy))
            · rw [he] at hy; obtain rfl := Option.some.inj hy; exact .inr hg
          have HP' := Lib.hid hperm; have HBF := Lib.hid hblkF; have HND := Lib.hid hnd; have HQM := Lib.hid hQm; have HO' := Lib.hid hown'; have HQ' := Lib.hid hq'; have HOO := Lib.hid ho'; have HM' := Lib.hid hm'; have HKE := Lib.hid hkep'; have HKA := Lib.hid hkat'; have HF' := Lib.hid hfr'; have HQE := Lib.hid hQ'
          clear hperm hblkF hnd hQm hown' hq' ho' hm' hkep' hkat' hfr' hQ'
          by_cases hlt : k < K.length
          · obtain ⟨b, hb⟩ : ∃ b, K[k]? = some b := ⟨_, List.getElem?_eq_getElem hlt⟩
            have hbd : b ∈ K.drop k := by rw [List.drop_eq_getElem_cons hlt, (List.getElem?_eq_some_iff.1 hb).2]; exact List.mem_cons_self
            obtain ⟨hbok, bi, hbn⟩ := HKA.out b hbd
            obtain ⟨g, rfl⟩ : ∃ g, ka = some ⟨g, 0, none⟩ := by
              rcases HKE.out.2 with ⟨he, hk0⟩ | ⟨g, cap, cur, he, _⟩
              · omega
              · injection he with he _ _; exact ⟨g, he⟩
            have hcc := HKE.out.cells (g := g) rfl k b.ptr (by rw [List.getElem?_map, hb]; rfl)
            have hadd : (⟨g, 0, none⟩ : Addr).add k = ⟨g, k, none⟩ := by unfold Addr.add; split <;> simp_all
            rw [hadd] at hcc
            unfold Bf.ptr at hcc
            have hbKm : b.blk ∈ (Q ++ K).map (·.blk) := by rw [List.map_append]; exact List.mem_append_right _ (List.mem_map.2 ⟨b, List.mem_of_getElem? hb, rfl⟩)
            obtain ⟨hbF, hbQ0⟩ := HBF.out _ hbKm
            have hbw := H.out.lt _ hbF
            have hbQ' : b.blk ∉ Q'.map (·.blk) := fun hy => by
              have h1 := (HP'.out.map (·.blk)).mem_iff.1 hy
              have h2 := HND.out
              have h3 : Q ++ K = (Q ++ K.take k) ++ K.drop k := by rw [List.append_assoc, List.take_append_drop]
              rw [h3, List.map_append, List.nodup_append] at h2
              exact h2.2.2 _ h1 _ (List.mem_map.2 ⟨b, hbd, rfl⟩) rfl
            have hbcb : b.blk ≠ cb := fun e => H.out.hq.off1 (e ▸ hbQ0)
            have hbo : v'.ownBlock ≠ some b.blk := fun e => by
              rcases HOO.out with he | ⟨g2, he, hg2⟩
              · exact (H.out.hq.off2 b.blk (by rw [← he]; exact e)).2 hbQ0
              · rw [he] at e; obtain rfl := Option.some.inj e; omega
            have hql : Q'.length ≤ 900000 := by
              obtain ⟨X, hX⟩ := HSB.out
              have h1 := hX.length_eq
              have h2 := HP'.out.length_eq
              simp only [List.length_append, List.length_take] at h1 h2; omega
            have hpu := hPush_any HQ'.out (by rfl) hbok hbn hbQ' hbcb hbo hql
            unfold hv Bf.ptr at hpu
            have HPU := Lib.hid hpu
            have c2x := cell_blk_some HQ'.out.blk HQ'.out.ptr
            have hgb : g < sz := (hkb g rfl).2
            have hgw : w.heap.size ≤ g := (hkb g rfl).1
            have HB := Lib.hid hb; have HBO := Lib.hid hbo; have HBQ := Lib.hid hbQ'
            clear hpu hb hbo hbQ' hbn hbKm hadd
            go_wp2_with fail
            refine HPU.out.mono ?_
            rintro e w5 ⟨rfl, v5, hq5, hn5, ho5, hf5⟩
            have hS : ∀ y, (y = cb ∨ y = b.blk ∨ v'.ownBlock = some y ∨ y ∈ Q'.map (·.blk)) → F y ∨ sz ≤ y := fun y hy => by
              rcases hy with rfl | rfl | hy | hy
              · exact .inl H.out.f1
              · exact .inl hbF
              · exact HO'.out y hy
              · exact .inl (HBF.out y (HQM.out y hy)).1
            have hsz5 : sz ≤ w5.heap.size := Nat.le_trans hsz' hf5.size
            have hrel5 : ∃ (k' : Nat) (Q'' : List Bf) (v'' : Value), k' ≤ K.length ∧ Value.int .i64 ((k : Int) + 1) = .int .i64 k' ∧ Q'' = (K.take k').foldl hpush Q ∧ HQ w5 cb (cacheC room mb v'' stamp) Q'' v'' ∧ (v''.ownBlock = v0.ownBlock ∨ ∃ g, v''.ownBlock = some g ∧ sz ≤ g) ∧ Ents w5 mb E' ∧
                w5.ownsRow w.heap.size 70 1 (.slice (some ⟨g, 0, none⟩) K.length kc) K.length (K.map Bf.ptr) ∧ (∀ b ∈ K.drop k', b.ok ∧ ∃ i : Int, w5.heap[b.blk]? = some (.cells (b.cells i) 74 (0, 0))) ∧ Fr F w w5 ∧ sz ≤ w5.heap.size := by
              refine ⟨k + 1, hpush Q' b, v5, by omega, by simp, ?_, hq5, ?_, ?_, ?_, ?_, ?_, hsz5⟩
              · rw [List.take_add_one, HB.out, HQE.out]; simp
              · rcases ho5 with he | ⟨g5, he, hg5⟩
                · rw [he]; exact HOO.out
                · exact .inr ⟨g5, he, Nat.le_trans hsz' hg5⟩
              · refine HM'.out.frame hf5 fun hs => ?_
                rcases hs with hs | hs | hs | hs
                · exact H.out.mo1 hs
                · exact H.out.mo3 (hs ▸ hbQ0)
                · rcases HOO.out with he | ⟨g2, he, hg2⟩
                  · exact H.out.mo2 (by rw [← he]; exact hs)
                  · rw [he] at hs; obtain rfl := Option.some.inj hs
                    have := H.out.lt _ H.out.f2; omega
                · exact H.out.mo3 (HBF.out _ (HQM.out _ hs)).2
              · refine ⟨HKE.out.1, ?_⟩
                rcases HKE.out.2 with hn | ⟨g2, cap, cur, he, h0', hg2, r⟩
                · exact .inl hn
                · refine .inr ⟨g2, cap, cur, he, h0', ?_, r⟩
                  have hge : g = g2 := by injection he with he _ _; simpa using he
                  rw [hf5.block g2 (blk_lt hg2) fun hs => ?_]; exact hg2
                  rcases hs with hs | hs | hs | hs
                  · have := H.out.lt _ H.out.f1; omega
                  · omega
                  · rcases HOO.out with he2 | ⟨g3, he2, hg3⟩
                    · have := H.out.lt _ (H.out.f3 g2 (by rw [← he2]; exact hs)); omega
                    · rw [he2] at hs; obtain rfl := Option.some.inj hs; omega
                  · have := H.out.lt _ (HBF.out _ (HQM.out _ hs)).1; omega
              · intro b' hb'
                have hb'd : b' ∈ K.drop k := by
                  rw [List.drop_eq_getElem_cons hlt]; exact List.mem_cons_of_mem _ hb'
                obtain ⟨o1, i', o2⟩ := HKA.out b' hb'd
                refine ⟨o1, i', ?_⟩
                have hbm' : b'.blk ∈ (Q ++ K).map (·.blk) := by rw [List.map_append]; exact List.mem_append_right _ (List.mem_map.2 ⟨b', List.mem_of_mem_drop hb'd, rfl⟩)
                have hF0 := HBF.out _ hbm'
                rw [hf5.block b'.blk (blk_lt o2) fun hs => ?_]; exact o2
                have h3 : Q ++ K = (Q ++ K.take k) ++ K.drop k := by rw [List.append_assoc, List.take_append_drop]
                have h2 := HND.out
                rw [h3, List.map_append, List.nodup_append, List.drop_eq_getElem_cons hlt, (List.getElem?_eq_some_iff.1 HB.out).2, List.map_cons, List.nodup_cons] at h2
                rcases hs with hs | hs | hs | hs
                · exact H.out.hq.off1 (hs ▸ hF0.2)
                · exact h2.2.1.1 (hs ▸ List.mem_map.2 ⟨b', hb', rfl⟩)
                · rcases HOO.out with he | ⟨g2, he, hg2⟩
                  · exact (H.out.hq.off2 _ (by rw [← he]; exact hs)).2 hF0.2
                  · rw [he] at hs; obtain hs := Option.some.inj hs
                    have := H.out.lt _ hF0.1; omega
                · exact h2.2.2 _ ((HP'.out.map (·.blk)).mem_iff.1 hs) _ (List.mem_cons_of_mem _ (List.mem_map.2 ⟨b', hb', rfl⟩)) rfl
              · exact HF'.out.trans' hf5 fun y hy hs => by
                  rcases hS y hs with h | h
                  · exact h
                  · omega
            have HREL := Lib.hid hrel5
            clear hrel5 hq5 hn5 ho5 hf5 hS c2x hcc
            go_wp2_with fail
            go_roundw
            case rel => exact HREL.out
            case measure => simp [intOf]; omega
          · obtain rfl : k = K.length := by omega
            have hQe := HQE.out
            rw [List.take_length] at hQe
            have hpF := HP'.out
            rw [List.take_length] at hpF
            go_wp2_with fail
            go_ret
            rw [HR2.out]
            obtain ⟨X, hX⟩ := HSB.out
            have hkeys : (Q'.map Bf.key).Nodup := by
              have h1 := (hX.map Bf.key).nodup_iff.2 H.out.keys
              rw [List.map_append, List.nodup_append] at h1
              exact (hpF.map Bf.key).nodup_iff.2 h1.2.1
            refine ⟨by rw [HEQ.out]; rfl, ?_, HF'.out⟩
            show CAt _ cb room stamp (K.foldl hpush Q) _
            rw [← hQe]
            refine ⟨mb, v', E', HQ'.out, HM'.out, HLK.out.trans (hpF.map _).symm, hkeys, fun b hb u hu => H.out.fine b (hX.mem_iff.1 (List.mem_append_right _ (hpF.mem_iff.1 hb))) u hu, H.out.mo1, fun e => ?_, fun hs => H.out.mo3 (HBF.out _ (HQM.out _ hs)).2, .inl H.out.f1, .inl H.out.f2, fun y hy => ?_, fun y hy => .inl (HBF.out y (HQM.out y hy)).1, fun y hy => ?_⟩
            · rcases HOO.out with he | ⟨g2, he, hg2⟩
              · exact H.out.mo2 (by rw [← he]; exact e)
              · rw [he] at e; obtain rfl := Option.some.inj e
                have := H.out.lt _ H.out.f2; omega
            · rcases HO'.out y hy with h | h
              · exact .inl h
              · exact .inr ⟨by omega, (HQ'.out.own.lt y hy).2⟩
            · rcases hy with h | h
              · exact Nat.lt_of_lt_of_le (H.out.lt y h) HF'.out.size
              · exact h.2
end Go.Proofs.Ytjldocpjoiibjaa
