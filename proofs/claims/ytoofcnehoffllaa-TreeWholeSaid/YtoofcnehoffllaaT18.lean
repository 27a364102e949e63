/- Walks of slices.Clone of bytes, of grow. -/
import Derived.Test.YtoofcnehoffllaaT17
import Derived.Test.YtoofcnehoffllaaZeros
namespace Go.Proofs.Ytoofcnehoffllaa
open Go.RowKit

theorem elByte : ElT Try.prog 29 5 1 1 (.int .u8 0) := ⟨Try.underlying29, by kernel_rfl, by kernel_rfl, by decide⟩
theorem infoU8 : (Try.prog.info? 5).map (fun i => (i.zero, i.size, i.bytes)) = some (some (.int .u8 0), 1, 1) := by kernel_rfl
theorem u8s_one (l : List Int) : ∀ u ∈ u8s l, u.oneCell' = true := fun u hu => by
  obtain ⟨x, _, rfl⟩ := List.mem_map.1 hu; rfl
theorem u8s_length (l : List Int) : (u8s l).length = l.length := List.length_map ..
theorem u8s_append (l m : List Int) : u8s (l ++ m) = u8s l ++ u8s m := List.map_append ..
theorem u8s_take (l : List Int) (k : Nat) : u8s (l.take k) = (u8s l).take k := List.map_take ..
section
variable {w : World}
theorem cell_lt {x : Addr} {u : Value} (h : w.cell? x = some u) : x.block < w.heap.size := by
  unfold World.cell? at h
  cases hg : w.heap[x.block]? with
  | none => simp [hg] at h
  | some ob => exact blk_lt hg
theorem cell_same {w' : World} {x : Addr} (h : w'.heap[x.block]? = w.heap[x.block]?) : w'.cell? x = w.cell? x := by
  unfold World.cell?
  rw [h]
theorem SrcG.fr {S : Nat → Prop} {k : Nat} {w' : World} {v : Value} {n : Nat} {xs : List Value} (h : SrcG k w v n xs) (hf : Fr S w w') (hs : 0 < n → ∀ a c ad, v = .slice a n c → a = some ad → ¬ S ad.block) : SrcG k w' v n xs := by
  obtain ⟨a, c, rfl, hl, h1, hc⟩ := h
  refine ⟨a, c, rfl, hl, h1, fun hp => ?_⟩
  obtain ⟨ad, rfl, hh⟩ := hc hp
  refine ⟨ad, rfl, fun j u hj => ?_⟩
  have h2 := hh j u hj
  have hbk : (ad.add j).block = ad.block := by unfold Addr.add; first | rfl | (split <;> rfl)
  exact (cell_same (hf.block _ (cell_lt h2) (by rw [hbk]; exact hs hp _ _ _ rfl rfl))).trans h2
theorem SrcG.below {k : Nat} {w' : World} {v : Value} {n : Nat} {xs : List Value} (h : SrcG k w v n xs) (hb : Below w.heap.size w w') : SrcG k w' v n xs := h.fr (S := fun _ => False) (Fr.below hb) fun _ _ _ _ _ _ => id
set_option maxRecDepth 100000 in
theorem cloneB_any {v : Value} {n : Nat} {xs : List Value} (h : SrcG 1 w v n xs) (hn : n ≤ 1000000) :
    Calls Try.prog 39 #[v] w fun e w' => ∃ v', e = .returned v' ∧ w'.ownsRow w.heap.size 5 1 v' n xs ∧ Below w.heap.size w w' := by
  obtain ⟨a, c, rfl, hl, h1, hc⟩ := h
  cases a with
  | none =>
    have h0 : n = 0 := by
      rcases Nat.eq_zero_or_pos n with h | h
      · exact h
      · obtain ⟨ad, e, _⟩ := hc h; cases e
    subst h0
    have hx : xs = [] := List.eq_nil_of_length_eq_zero (by omega)
    subst hx
    clear hl h1 hc
    have hq := fun w => (Lib.run_eql_slice_nil (P := Try.prog) w 29 5 none 0 c 0 0 Try.underlying29)
    go_enter Try.func39, Try.ntmps39
    go_wp2_with fail
    go_ret
    exact ⟨_, rfl, ⟨rfl, .inl ⟨rfl, rfl⟩⟩, Below.refl _ _⟩
  | some ad =>
    have hs : SrcG 1 (w.alloc (.cells #[] 5)) (.slice (some ad) n c) n xs := SrcG.below ⟨_, _, rfl, hl, h1, hc⟩ ((Below.refl _ w).alloc (Nat.le_refl _) _)
    have ho : (w.alloc (.cells #[] 5)).ownsRow w.heap.size 5 1 (.slice (some ⟨w.heap.size, 0, none⟩) 0 0) 0 [] := own_block (xs := []) (blk_new rfl) rfl rfl (Nat.le_refl _) (by decide)
    have HS := Lib.hid hs; have HO := Lib.hid ho
    have hq := fun w => (Lib.run_eql_slice_nil (P := Try.prog) w 29 5 (some ad) n c 0 0 Try.underlying29)
    clear hl h1 hc hs ho
    go_enter Try.func39, Try.ntmps39
    go_wp2_with (refine wpList_append_g (by rfl) (.tmp 5) (.tmp 6) (by rfl) elByte (by rfl) HO.out (by rfl) HS.out (by unfold maxLen; omega) (by omega) (by simp) ?_)
    intro v5 w5 ho5 hf5 hv5
    have HO5 := Lib.hid ho5; have HF5 := Lib.hid hf5
    clear ho5 hf5 hv5
    go_wp2_with fail
    go_ret
    refine ⟨v5, rfl, by have := HO5.out; first | exact this | (rw [Nat.zero_add] at this; exact this), ?_⟩
    exact ((Below.refl _ w).alloc (Nat.le_refl _) _).trans (HF5.out.toBelow (by simp) fun x hx => by injection hx with hx; subst hx; exact Nat.le_refl _)
end
section
variable {P : Program} (w : World)
/-- Append of zeros; where the row lies then. -/
theorem run_append_zeros2 (base : Nat) (t tn ty e : TypeId) (i : TypeInfo) (z : Value) (bytes : Nat) (kq kn : IntKind) (ht : P.underlying t = some (.slice e)) (htn : P.underlying tn = some (.int kn)) (hi : P.info? e = some i) (hz : i.zero = some z)
    (hzc : z.cells = #[z]) (h1 : z.oneCell' = true) (hsize : i.size = 1) (hby : i.bytes = bytes)
    (v : Value) (n : Nat) (xs : List Value) (hown : w.ownsRow base e 1 v n xs) (k : Nat)
    (h63 : n + k ≤ maxLen) (hbytes : (n + k) * bytes ≤ 140737488355328) (hb1 : k * bytes ≤ 140737488355328) (hbase : base ≤ w.heap.size) :
    ∃ v' w', (Builtin.append_ #[t, tn] ty #[v, .int kq k]).run P w = .ok v' w' ∧ w'.ownsRow base e 1 v' (n + k) (xs ++ List.replicate k z) ∧ w.grownBy w' v.ownBlock ∧ (v'.ownBlock = v.ownBlock ∨ v'.ownBlock = some w.heap.size) := by
  have rr : ∀ {A : Value → World → Prop} {o : Option Nat}, (∃ v' w', A v' w' ∧ w'.ownsRow base e 1 v' (n + k) (xs ++ List.replicate k z) ∧ w.grownBy w' o ∧ v'.ownBlock = some w.heap.size) → ∃ v' w', A v' w' ∧ w'.ownsRow base e 1 v' (n + k) (xs ++ List.replicate k z) ∧ w.grownBy w' o ∧ (v'.ownBlock = o ∨ v'.ownBlock = some w.heap.size) := fun ⟨v', w', a, b, c, d⟩ => ⟨v', w', a, b, c, .inr d⟩
  have hsmall : n + k ≤ 9223372036854775807 := by simp only [maxLen] at h63; omega
  have hxl : xs.length = n := by simpa using hown.1
  have hlen : (xs ++ List.replicate k z).length = (n + k) * 1 := by rw [List.length_append, hxl, List.length_replicate, Nat.mul_one]
  have hw : IntKind.i64.wrap (k : Int) = k := by rw [IntKind.wrap_i64]; omega
  have h48i : ¬ (281474976710656 < (k : Int) * (bytes : Int)) := by rw [← Int.natCast_mul]; omega
  have hneg : ¬ ((k : Int) < 0) := by omega
  by_cases hk : k = 0
  · subst hk
    have hw0 : IntKind.i64.wrap 0 = 0 := by decide
    refine ⟨v, w, ?_, by simpa using hown, ⟨rfl, rfl, rfl, Nat.le_refl _, fun _ _ _ => rfl⟩, .inl rfl⟩
    rcases hown.2 with ⟨rfl, rfl⟩ | ⟨g, cap, cur, rfl, hbg, hg, hnc, hcm, hcs, htake⟩
    · simp [Builtin.append_, run_underlying ht, run_underlying htn, sizeOf, typeInfo, hi, asInt, asIntOf, hw0, hby]
    · simp [Builtin.append_, run_underlying ht, run_underlying htn, sizeOf, typeInfo, hi, asInt, asIntOf, hw0, hby, hnc, storeCells]
  · have grows : ∀ (ao : Option Addr) (old : Nat), old < n + k → (Builtin.firstCells i.size n (.slice ao n old)).run P w.drew = .ok xs.toArray w.drew → ∀ row : Option Nat,
        ∃ v' w', (Builtin.append_ #[t, tn] ty #[.slice ao n old, .int kq k]).run P w = .ok v' w' ∧ w'.ownsRow base e 1 v' (n + k) (xs ++ List.replicate k z) ∧ w.grownBy w' row ∧ v'.ownBlock = some w.heap.size := by
      intro ao old ho hf row
      have hr := Lib.run_append_grow_zeros (P := P) w t tn ty e i z kq kn ht htn hi hz ao n old xs hf k (by omega) (by omega) ho (by omega) (by rw [hby]; omega) (by
        rw [hby]
        exact growslice_fits (by omega) (by omega))
      have hge := grownCap_ge w (n + k) old e
      have hcm : grownCap w (n + k) old e ≤ maxLen := grownCap_le_maxLen w (n + k) old e h63
      refine ⟨_, _, hr, ⟨hlen, .inr ⟨w.heap.size, _, _, rfl, hbase, heap_alloc_new w.drew _, hge, hcm, ?_, ?_⟩⟩, ⟨rfl, rfl, rfl, by simp, fun k hk _ => Below.heap_alloc w.drew _ k hk⟩, rfl⟩
      · rw [hzc]
        simp only [Array.size_append, List.size_toArray, zeroCells_one, hxl, List.length_replicate]
        omega
      · rw [hzc]
        simp only [Array.toList_append, zeroCells_one]
        rw [← hlen]
        exact List.take_left
    rcases hown.2 with ⟨rfl, rfl⟩ | ⟨g, cap, cur, rfl, hbg, hg, hnc, hcm, hcs, htake⟩
    · have hx : xs = [] := List.eq_nil_of_length_eq_zero hxl
      subst hx
      exact rr (grows none 0 (by omega) (by simp [Builtin.firstCells]) _)
    · by_cases hroom : n + k ≤ cap
      · have hcs' : cur.size = cap := by simpa using hcs
        have hst := run_storeCells_at P g n e (List.replicate k z) 0 cur w hg (by simp; omega) (fun u hu => by rw [List.eq_of_mem_replicate hu]; exact h1)
        simp only [Nat.add_zero, List.length_replicate] at hst
        have hr : (Builtin.append_ #[t, tn] ty #[.slice (some ⟨g, 0, none⟩) n cap, .int kq k]).run P w =
            .ok (.slice (some ⟨g, 0, none⟩) (n + k) cap) (w.setRow g (cur.toList.take n ++ List.replicate k z ++ cur.toList.drop (n + k)).toArray) := by
          simp [Builtin.append_, run_underlying ht, run_underlying htn, sizeOf, typeInfo, zeroValue, hi, hz, hsize, asInt, asIntOf, hw, hneg, hby, h48i, hroom, hk, hzc, zeroCells_one, Addr.add_lit, hst]
        refine ⟨_, _, hr, ⟨hlen, .inr ⟨g, cap, _, rfl, hbg, setRow_heap w g cur _ e _ hg, hroom, hcm, ?_, ?_⟩⟩, ⟨rfl, rfl, rfl, by simp, fun k _ hk => setRow_other w g k _ (fun e => hk (by simp [Value.ownBlock, e]))⟩, .inl rfl⟩
        · simp only [List.size_toArray, List.length_append, List.length_take, List.length_drop, Array.length_toList, List.length_replicate]
          omega
        · have ht' : cur.toList.take n = xs := by simpa using htake
          rw [ht', ← hlen]
          exact List.take_left
      · have holds : ∀ j u, xs[j]? = some u → w.cell? ((⟨g, 0, none⟩ : Addr).add j) = some u := hown.cells (g := g) rfl
        exact rr (grows (some ⟨g, 0, none⟩) cap (by omega) (run_firstCells_some (P := P) w.drew i.size n _ n cap xs (by rw [hsize]; simpa using hxl) (by simpa using holds)) _)
theorem step_append_zeros {ops : Array Oper} {o : Oper} {a : Act} {K : Act → World → Prop} {Q : Exit → Act → World → Prop} {F : Prop} (hgd : o.guard = none) (sl x : Operand) (t tn : TypeId)
    (ho : o.op = .call { callee := .builtin .append, args := #[sl, x], argTypes := #[t, tn] })
    (base : Nat) (e : TypeId) (i : TypeInfo) (z : Value) (bytes : Nat) (kq kn : IntKind) (ht : P.underlying t = some (.slice e)) (htn : P.underlying tn = some (.int kn)) (hi : P.info? e = some i) (hz : i.zero = some z)
    (hzc : z.cells = #[z]) (h1 : z.oneCell' = true) (hsize : i.size = 1) (hby : i.bytes = bytes)
    (v : Value) (n : Nat) (xs : List Value) (hs : a.eval sl = v) (hown : w.ownsRow base e 1 v n xs) (k : Nat) (c : Int) (hx : a.eval x = .int kq c) (hc : c = k)
    (h63 : n + k ≤ maxLen) (hbytes : (n + k) * bytes ≤ 140737488355328) (hb1 : k * bytes ≤ 140737488355328) (hbase : base ≤ w.heap.size)
    (h : ∀ v' w', w'.ownsRow base e 1 v' (n + k) (xs ++ List.replicate k z) → w.grownBy w' v.ownBlock → (v'.ownBlock = v.ownBlock ∨ v'.ownBlock = some w.heap.size) → K (a.put o.dst v') w') :
    if Region.wanted o (yielded ops a.tmps) = true then Oper.wp P o a w K Q else F := by
  have hw : Region.wanted o (yielded ops a.tmps) = true := by simp [Region.wanted, hgd]
  rw [if_pos hw]
  subst hc
  obtain ⟨v', w', hr, h2, h3, h4⟩ := run_append_zeros2 (P := P) w base t tn o.type e i z bytes kq kn ht htn hi hz hzc h1 hsize hby v n xs hown k h63 hbytes hb1 hbase
  unfold Oper.wp execOp
  simp only [ho, resolve, invoke, builtin, Sem.run_bind, Sem.run_pure, Result.andThen_ok, List.map_toArray, List.map_cons, List.map_nil, hs, hx, hr]
  exact h v' w' h2 h3 h4
end
/-- Bytes cut, or with zeros behind, to so many. -/
def sizedN (d : List Int) (k : Nat) : List Int := (d ++ List.replicate (k - d.length) 0).take k
theorem sizedN_length (d : List Int) (k : Nat) : (sizedN d k).length = k := by unfold sizedN; rw [List.length_take, List.length_append, List.length_replicate]; omega
section
variable {w : World}
theorem own_cut {B k : Nat} {E : TypeId} {a : Option Addr} {n c : Nat} {xs : List Value} (h : w.ownsRow B E 1 (.slice a n c) n xs) (hk : k ≤ n) : w.ownsRow B E 1 (.slice a k c) k (xs.take k) := by
  have hl : xs.length = n * 1 := h.1
  refine ⟨by rw [List.length_take]; omega, ?_⟩
  rcases h.2 with ⟨h1, h2⟩ | ⟨g, cap, cur, h1, h2, h3, h4, h5, h6, h7⟩
  · injection h1 with e1 e2 e3
    subst e1 e3
    refine .inl ⟨?_, by omega⟩
    rw [show k = 0 by omega]
  · injection h1 with e1 e2 e3
    subst e1 e3
    refine .inr ⟨g, c, cur, rfl, h2, h3, by omega, h5, h6, ?_⟩
    rw [← h7, List.take_take, Nat.mul_one, Nat.mul_one, Nat.min_eq_left hk]
set_option maxHeartbeats 2000000 in
set_option maxRecDepth 100000 in
theorem grow_any {b k : Nat} {i : Int} {o : Option Nat} {l : Int} {v : Value} {d : List Int}
    (hb : w.heap[b]? = some (.cells #[.int .i64 i, .map o, v, .int .i64 l] 67 (0, 0))) (hv : w.ownsRow 0 5 1 v d.length (u8s d)) (hd : d.length ≤ 100000) (hk : k ≤ 100000) :
    Calls Try.prog 40 #[.pointer (some ⟨b, 0, none⟩), .int .i64 k] w fun e w' => e = .returned (.tuple #[]) ∧ ∃ v', w'.heap[b]? = some (.cells #[.int .i64 i, .map o, v', .int .i64 l] 67 (0, 0)) ∧
      w'.ownsRow 0 5 1 v' (sizedN d k).length (u8s (sizedN d k)) ∧ (v'.ownBlock = v.ownBlock ∨ ∃ c, v'.ownBlock = some c ∧ w.heap.size ≤ c) ∧ Fr (fun x => x = b ∨ v.ownBlock = some x) w w' := by
  obtain ⟨i0, hi, hz0, hz1, hz2⟩ := info_parts infoU8
  have hoff : v.ownBlock ≠ some b := own_off hv hb (by decide)
  have c2 := cell_blk_some hb (i := 2) rfl
  have g2 := free_blk (i := 2) hb
  have hd' : ((d.length : Nat) : Int) ≤ 100000 := by omega
  have hk' : (k : Int) ≤ 100000 := by omega
  by_cases hkd : d.length < k
  · obtain ⟨va, vc, rfl⟩ := own_shape hv
    have HB := Lib.hid hb; have HV := Lib.hid hv; have HO := Lib.hid hoff
    have hlt : (d.length : Int) < (k : Int) := by omega
    have hw1 : IntKind.i64.wrap ((k : Int) - d.length) = (k : Int) - d.length := IntWalk.i64_in _ (by omega)
    have hkn : IntKind.i64.wrap ((k - d.length : Nat) : Int) = ((k - d.length : Nat) : Int) := IntWalk.i64_in _ (by omega)
    clear hb hv hoff
    go_enter Try.func40, Try.ntmps40
    go_wp2_with fail
    go_region_law
      (refine step_append_zeros _ rfl (.tmp 15) (.tmp 22) 29 3 rfl 0 5 i0 (.int .u8 0) 1 .i64 .i64 Try.underlying29 Try.underlying3 hi hz0 rfl rfl hz1 hz2 _ _ _ rfl HV.out (k - d.length) _ rfl (by first | exact hkn | omega) (by unfold maxLen; omega) (by omega) (by omega) (by omega) ?_
       intro v2 w2 hown2 hgr2 hloc2
       rw [show d.length + (k - d.length) = k by omega] at hown2
       rcases hown2.2 with ⟨-, h0⟩ | ⟨g, c, cur, rfl, -, hg, hc, hm, -, -⟩
       · omega
       have m1 : (k : Int) ≤ (c : Int) := by omega
       have m0 : (0 : Int) ≤ (k : Int) := by omega
       have m2 : (0 : Int) ≤ (c : Int) := by omega
       have hf2 : Fr (fun x => (Value.slice va d.length vc).ownBlock = some x) w.drew w2 := Fr.grown hgr2
       have hl2 : (Value.slice (some ⟨g, 0, none⟩) k c).ownBlock = (Value.slice va d.length vc).ownBlock ∨ (Value.slice (some ⟨g, 0, none⟩) k c).ownBlock = some w.heap.size := hloc2
       have hb2 := (hf2.block b (blk_lt HB.out) HO.out).trans HB.out
       have d2 := cell_blk_some hb2 (i := 2) rfl
       have e2 := free_blk (i := 2) hb2
       have HB2 := Lib.hid hb2; have HF2 := Lib.hid hf2; have HO2 := Lib.hid hown2; have HL2 := Lib.hid hl2
       clear hown2 hgr2 hloc2 hl2 hf2 hb2 hg
       dsimp only)
    all_goals
      go_wp2_with fail
      go_end0
      have hf : Fr (fun x => x = b) w2 ((w2.setCell ⟨b, 2, none⟩ (.slice (some ⟨g, 0, none⟩) k c)).setCell ⟨b, 2, none⟩ (.slice (some ⟨g, 0, none⟩) k c)) := ((Fr.refl (fun x => x = b) w2).setCell ⟨b, 2, none⟩ rfl _).setCell ⟨b, 2, none⟩ rfl _
      have hz : u8s (sizedN d k) = u8s d ++ List.replicate (k - d.length) (.int .u8 0) := by
        unfold sizedN
        rw [List.take_of_length_le (by rw [List.length_append, List.length_replicate]; omega), u8s_append]
        unfold u8s
        rw [List.map_replicate]
      refine ⟨rfl, _, blk_set (i := 2) (blk_set (i := 2) HB2.out _) _, ?_, HL2.out.imp id fun e => ⟨_, e, Nat.le_refl _⟩, ?_⟩
      · rw [sizedN_length, hz]
        exact own_frame HO2.out hf fun g' hg' e => by
          rcases HL2.out with e2 | e2
          · exact HO.out (by rw [← e, ← e2]; exact hg')
          · rw [e2] at hg'
            injection hg' with hg'
            have := blk_lt HB.out
            omega
      · exact ((((Fr.refl _ w).drew).trans (HF2.out.tell fun x hx => .inr hx)).trans (hf.tell fun x hx => .inl hx))
  · have hle : (k : Int) ≤ (d.length : Int) := by omega
    have hnl : ¬ (d.length : Int) < (k : Int) := by omega
    rcases hv.2 with ⟨rfl, h0⟩ | ⟨g, c, cur, rfl, h0, hg, hc, hm, hs, ht⟩
    · have hk0 : k = 0 := by omega
      subst hk0
      have hdn : d = [] := List.eq_nil_of_length_eq_zero h0
      subst hdn
      have HB := Lib.hid hb; have HV := Lib.hid hv
      clear hb hv hoff
      go_enter Try.func40, Try.ntmps40
      go_wp2_with fail
      go_end0
      exact ⟨rfl, _, blk_set (i := 2) HB.out _, own_frame HV.out (S := fun x => x = b) ((Fr.refl (fun x => x = b) w).setCell ⟨b, 2, none⟩ rfl _) (fun g hg => by cases hg), .inl rfl, (Fr.refl _ w).setCell ⟨b, 2, none⟩ (.inl rfl) _⟩
    · have m1 : (k : Int) ≤ (c : Int) := by omega
      have m0 : (0 : Int) ≤ (k : Int) := by omega
      have m2 : (0 : Int) ≤ (c : Int) := by omega
      have HB := Lib.hid hb; have HV := Lib.hid hv; have HO := Lib.hid hoff
      clear hb hv hoff ht hs hg h0
      go_enter Try.func40, Try.ntmps40
      go_wp2_with fail
      go_end0
      have hz : sizedN d k = d.take k := by unfold sizedN; rw [show k - d.length = 0 by omega, List.replicate_zero, List.append_nil]
      have hf : Fr (fun x => x = b) w (w.setCell ⟨b, 2, none⟩ (.slice (some ⟨g, 0, none⟩) k c)) := (Fr.refl (fun x => x = b) w).setCell ⟨b, 2, none⟩ rfl _
      refine ⟨rfl, _, blk_set (i := 2) HB.out _, ?_, .inl rfl, hf.tell fun x hx => .inl hx⟩
      have := own_cut HV.out (k := k) (by omega)
      rw [sizedN_length, hz, u8s_take]
      exact own_frame this hf fun g' hg' e => HO.out (by rw [← e]; exact hg')
end
end Go.Proofs.Ytoofcnehoffllaa
