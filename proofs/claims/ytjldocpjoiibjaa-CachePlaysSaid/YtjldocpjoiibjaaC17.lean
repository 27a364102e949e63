/- The fixed fact: marllaw09.awake answers true. -/
import Derived.Test.YtjldocpjoiibjaaC16
namespace Go.Proofs.Ytjldocpjoiibjaa
open Go.RowKit

theorem CAt.lt {w : World} {cb : Nat} {room stamp : Int} {Q : List Bf} {F : Nat → Prop} (h : CAt w cb room stamp Q F) : ∀ x, F x → x < w.heap.size := by
  obtain ⟨mb, v, E, h⟩ := h
  exact h.lt
theorem dataZ {w : World} {F : Nat → Prop} {Z : Array Value} (hZ : Z = zeros64.toArray) (hF : ∀ x, F x → x < w.heap.size) : DataAt (w.alloc (.cells Z 5)) F w.heap.size 0 zeros64 := by
  refine ⟨by rfl, fun u hu => ?_, fun j u hj => ?_, fun hf => ?_, by simp⟩
  · rw [(List.mem_replicate.1 hu).2]; rfl
  · rw [Nat.zero_add]; exact cell_blk_some (blk_new rfl) (by rw [hZ]; simpa using hj)
  · have := hF _ hf; omega
theorem CAt.alloc {w : World} {cb : Nat} {room stamp : Int} {Q : List Bf} {F : Nat → Prop} (h : CAt w cb room stamp Q F) (o : Obj) : CAt (w.alloc o) cb room stamp Q F := h.frame ((Fr.refl (fun _ => False) w).alloc o) fun _ _ h => h

def bz (nb : Nat) (k : Int × Int) (d : Bool) (s : Int) : Bf := ((newB nb k).put zeros64 d).setStamp s
theorem first_push (nb : Nat) (k : Int × Int) {i : Nat} (h : (hpush [] (newB nb k))[i]? = some (newB nb k)) (d : Bool) : useQ ((hpush [] (newB nb k)).set i ((newB nb k).put zeros64 d)) i 1 = [bz nb k d 1] := by
  have hi : i = 0 := by
    have := (List.getElem?_eq_some_iff.1 h).1
    have h2 : (hpush [] (newB nb k)).length = 1 := rfl
    omega
  subst hi; rfl
theorem push_two (b : Bf) (nb : Nat) (k : Int × Int) (hb : decide ((0 : Int) < b.stamp) = true) : hpush [b] (newB nb k) = [newB nb k, b] := by
  unfold hpush
  show upQ 2 [b, newB nb k] 1 = _
  have h : lessQ [b, newB nb k] 1 0 = true := hb
  rw [upQ, if_neg (by decide), show (1 - 1) / 2 = 0 from rfl, h, if_pos rfl]
  rfl
theorem use_two (x b : Bf) (s : Int) (hs : decide (b.stamp < s) = true) : useQ [x, b] 0 s = [b, x.setStamp s] := by
  unfold useQ fixQ
  have h : lessQ [x.setStamp s, b] 1 0 = true := hs
  have hk : kidQ [x.setStamp s, b] 0 2 = 1 := rfl
  have hd : downQ 2 [x.setStamp s, b] 0 2 = ([b, x.setStamp s], 1) := by
    rw [downQ, if_neg (by decide), hk, h, if_pos rfl]
    rfl
  show (if 0 < (downQ 2 [x.setStamp s, b] 0 2).2 then (downQ 2 [x.setStamp s, b] 0 2).1 else _) = _
  rw [hd]; rfl
theorem next_push (b : Bf) (nb : Nat) (k : Int × Int) {i : Nat} (s : Int) (hb : decide ((0 : Int) < b.stamp) = true) (hs : decide (b.stamp < s) = true) (h : (hpush [b] (newB nb k))[i]? = some (newB nb k)) (d : Bool) :
    useQ ((hpush [b] (newB nb k)).set i ((newB nb k).put zeros64 d)) i s = [b, bz nb k d s] := by
  rw [push_two b nb k hb] at h ⊢
  have hi : i = 0 := by
    match i, h with
    | 0, _ => rfl
    | 1, h =>
      have : b = newB nb k := by simpa using h
      rw [this] at hb; cases hb
    | n + 2, h => simp at h
  subst hi
  exact use_two _ b s hs

/-- Two caches side by side. -/
structure Two (W w : World) (cb db : Nat) (Qc : List Bf) (sc : Int) (Fc : Nat → Prop) (Qd : List Bf) (sd : Int) (Fd : Nat → Prop) : Prop where
  c : CAt w cb 2 sc Qc Fc
  d : CAt w db 1 sd Qd Fd
  dis : ∀ x, Fc x → ¬ Fd x
  lc : ∀ x, Fc x → W.heap.size ≤ x
  ld : ∀ x, Fd x → W.heap.size ≤ x
  bel : Below W.heap.size W w
section
variable {W w w' : World} {cb db : Nat} {Qc Qd Q' : List Bf} {sc sd s' : Int} {Fc Fd F' : Nat → Prop}
theorem Two.cstep (T : Two W w cb db Qc sc Fc Qd sd Fd) (h : CAt w' cb 2 s' Q' F') (hf : Fr Fc w w') (hF : ∀ x, F' x → Fc x ∨ w.heap.size ≤ x) : Two W w' cb db Q' s' F' Qd sd Fd :=
  ⟨h, T.d.frame hf fun x hx hs => T.dis x hs hx, fun x hx hd => (hF x hx).elim (fun h => T.dis x h hd) (fun h => by have := T.d.lt x hd; omega),
    fun x hx => (hF x hx).elim (T.lc x) (fun h => Nat.le_trans T.bel.size h), T.ld, T.bel.trans (hf.toBelow (B := W.heap.size) T.bel.size T.lc)⟩
theorem Two.dstep (T : Two W w cb db Qc sc Fc Qd sd Fd) (h : CAt w' db 1 s' Q' F') (hf : Fr Fd w w') (hF : ∀ x, F' x → Fd x ∨ w.heap.size ≤ x) : Two W w' cb db Qc sc Fc Q' s' F' :=
  ⟨T.c.frame hf fun x hx hs => T.dis x hx hs, h, fun x hx hd => (hF x hd).elim (fun h => T.dis x hx h) (fun h => by have := T.c.lt x hx; omega),
    T.lc, fun x hx => (hF x hx).elim (T.ld x) (fun h => Nat.le_trans T.bel.size h), T.bel.trans (hf.toBelow (B := W.heap.size) T.bel.size T.ld)⟩
theorem Two.alloc (T : Two W w cb db Qc sc Fc Qd sd Fd) (o : Obj) : Two W (w.alloc o) cb db Qc sc Fc Qd sd Fd :=
  ⟨T.c.alloc o, T.d.alloc o, T.dis, T.lc, T.ld, below_alloc T.bel (Nat.le_refl _) o⟩
theorem Fx_old {F : Nat → Prop} {a b : World} : ∀ x, Fx F a b x → F x ∨ a.heap.size ≤ x := fun x hx => hx.imp id (·.1)
theorem DataAt.ofC (T : Two W w cb db Qc sc Fc Qd sd Fd) {Z : Array Value} (hZ : Z = zeros64.toArray) : DataAt (w.alloc (.cells Z 5)) Fc w.heap.size 0 zeros64 := dataZ hZ T.c.lt
theorem DataAt.ofD (T : Two W w cb db Qc sc Fc Qd sd Fd) {Z : Array Value} (hZ : Z = zeros64.toArray) : DataAt (w.alloc (.cells Z 5)) Fd w.heap.size 0 zeros64 := dataZ hZ T.d.lt
end

set_option maxHeartbeats 4000000 in
set_option maxRecDepth 100000 in
theorem awake_any (w : World) : Calls Try.prog 8 #[] w fun e w' => e = .returned (.bool true) ∧ Below w.heap.size w w' := by
  obtain ⟨Z, hZ⟩ : ∃ Z, Z = zeros64.toArray := ⟨_, rfl⟩
  have mk := make64 Z hZ
  have HZ := Lib.hid hZ; clear hZ
  have HN2 := Lib.hid (fun w => cNew_any (room := 2) (by first | decide | simp [bz, newB, Bf.put, Bf.setStamp, Bf.key]) (by first | decide | simp [bz, newB, Bf.put, Bf.setStamp, Bf.key]) w)
  have HN1 := Lib.hid (fun w => cNew_any (room := 1) (by first | decide | simp [bz, newB, Bf.put, Bf.setStamp, Bf.key]) (by first | decide | simp [bz, newB, Bf.put, Bf.setStamp, Bf.key]) w)
  go_enter Try.func8, Try.ntmps8
  go_wp2_with fail
  refine (HN2.out _).mono ?_
  rintro e w1 ⟨cb, rfl, hc1, hb1⟩
  have HC := Lib.hid hc1; have HB := Lib.hid hb1
  clear hc1 hb1
  go_wp2_with fail
  refine (HN1.out _).mono ?_
  rintro e w2 ⟨db, rfl, hd2, hb2⟩
  have hsz1 := HB.out.size
  have hc2 := HC.out.frame (Fr.below (S := fun _ => False) hb2) (fun _ _ h => h)
  have hbel := below_call HB.out hb2 (Nat.le_refl _)
  have T0 := Lib.hid (Two.mk (W := w) hc2 hd2 (fun x h1 h2 => by omega) (fun x h => h.1) (fun x h => by omega) hbel)
  clear hc2 hd2 hbel hb2 HB HC HN1 HN2
  go_wp2_with fail
  refine wp_loop_rounds 4 ?_
  rw [rounds_succ]
  go_wp2_with fail
  refine (put_new (k := (0, 1)) (d := false) (T0.out.alloc _).c (by simp) (by first | decide | simp [bz, newB, Bf.put, Bf.setStamp, Bf.key]) (DataAt.ofC T0.out HZ.out) (by first | decide | simp [bz, newB, Bf.put, Bf.setStamp, Bf.key]) (by first | decide | simp [bz, newB, Bf.put, Bf.setStamp, Bf.key]) (by first | decide | simp [bz, newB, Bf.put, Bf.setStamp, Bf.key])).mono ?_
  rintro e w3 ⟨n1, i1, hn1, hi1, rfl, h3, hf3⟩
  rw [show (0 : Int) + 1 = 1 from rfl, first_push n1 (0, 1) hi1] at h3
  have T1 := Lib.hid ((T0.out.alloc _).cstep h3 hf3 Fx_old)
  clear h3 hf3 hi1 hn1 T0
  go_wp2_with fail
  rw [rounds_succ]
  go_wp2_with fail
  refine (put_new (k := (0, 2)) (d := false) (T1.out.alloc _).c (by first | decide | simp [bz, newB, Bf.put, Bf.setStamp, Bf.key]) (by first | decide | simp [bz, newB, Bf.put, Bf.setStamp, Bf.key]) (DataAt.ofC T1.out HZ.out) (by first | decide | simp [bz, newB, Bf.put, Bf.setStamp, Bf.key]) (by first | decide | simp [bz, newB, Bf.put, Bf.setStamp, Bf.key]) (by first | decide | simp [bz, newB, Bf.put, Bf.setStamp, Bf.key])).mono ?_
  rintro e w4 ⟨n2, i2, hn2, hi2, rfl, h4, hf4⟩
  rw [show (1 : Int) + 1 = 2 from rfl, next_push (bz n1 (0, 1) false 1) n2 (0, 2) 2 (by rfl) (by rfl) hi2] at h4
  have T2 := Lib.hid ((T1.out.alloc _).cstep h4 hf4 Fx_old)
  clear h4 hf4 hi2 hn2 T1
  go_wp2_with fail
  rw [rounds_succ]
  go_wp2_with fail
  refine (cGet_any (i := 0) (b := bz n1 (0, 1) false 1) T2.out.c rfl (by first | decide | simp [bz, newB, Bf.put, Bf.setStamp, Bf.key]) (by first | decide | simp [bz, newB, Bf.put, Bf.setStamp, Bf.key]) (by first | decide | simp [bz, newB, Bf.put, Bf.setStamp, Bf.key])).mono ?_
  rintro e w5 ⟨v5, rfl, -, h5, hf5⟩
  rw [show (2 : Int) + 1 = 3 from rfl, use_two (bz n1 (0, 1) false 1) (bz n2 (0, 2) false 2) 3 (by rfl)] at h5
  have T3 := Lib.hid (T2.out.cstep h5 hf5 (fun x hx => .inl hx))
  clear h5 hf5 T2
  go_wp2_with fail
  refine (put_evict (k := (0, 3)) (d := false) (T3.out.alloc _).c (by simp [bz, newB, Bf.put, Bf.setStamp, Bf.key]) (by rfl) (by rfl) (DataAt.ofC T3.out HZ.out) (by first | decide | simp [bz, newB, Bf.put, Bf.setStamp, Bf.key]) (by first | decide | simp [bz, newB, Bf.put, Bf.setStamp, Bf.key]) (by first | decide | simp [bz, newB, Bf.put, Bf.setStamp, Bf.key])).mono ?_
  rintro e w6 ⟨n3, i3, hn3, hi3, rfl, h6, hf6⟩
  rw [show evF [bz n2 (0, 2) false 2, (bz n1 (0, 1) false 1).setStamp 3] = [(bz n1 (0, 1) false 1).setStamp 3] from rfl] at h6 hi3
  rw [show (3 : Int) + 1 = 4 from rfl, next_push ((bz n1 (0, 1) false 1).setStamp 3) n3 (0, 3) 4 (by rfl) (by rfl) hi3] at h6
  have T4 := Lib.hid ((T3.out.alloc _).cstep h6 hf6 Fx_old)
  clear h6 hf6 hi3 hn3 T3
  go_wp2_with fail
  rw [rounds_succ]
  go_wp2_with fail
  refine (cGet_miss (k := (0, 2)) T4.out.c (by simp [bz, newB, Bf.put, Bf.setStamp, Bf.key])).mono ?_
  rintro e w7 ⟨rfl, h7, hf7⟩
  have T5 := Lib.hid (T4.out.cstep h7 hf7 (fun x hx => .inl hx))
  clear h7 hf7 T4
  go_wp2_with fail
  refine (cLen_any T5.out.c).mono ?_
  rintro e w8 ⟨rfl, hw⟩
  obtain rfl := hw.symm
  rw [show (([(bz n1 (0, 1) false 1).setStamp 3, bz n3 (0, 3) false 4] : List Bf).length : Int) = 2 from rfl]
  go_wp2_with fail
  refine (put_new (k := (0, 1)) (d := true) (T5.out.alloc _).d (by simp) (by first | decide | simp [bz, newB, Bf.put, Bf.setStamp, Bf.key]) (DataAt.ofD T5.out HZ.out) (by first | decide | simp [bz, newB, Bf.put, Bf.setStamp, Bf.key]) (by first | decide | simp [bz, newB, Bf.put, Bf.setStamp, Bf.key]) (by first | decide | simp [bz, newB, Bf.put, Bf.setStamp, Bf.key])).mono ?_
  rintro e w9 ⟨m1, j1, hm1, hj1, rfl, h9, hf9⟩
  rw [show (0 : Int) + 1 = 1 from rfl, first_push m1 (0, 1) hj1] at h9
  have T6 := Lib.hid ((T5.out.alloc _).dstep h9 hf9 Fx_old)
  clear h9 hf9 hj1 hm1 T5
  go_wp2_with fail
  refine (put_full (k := (0, 2)) (d := false) (T6.out.alloc _).d (by simp [bz, newB, Bf.put, Bf.setStamp, Bf.key]) (by rfl) (by rfl) (DataAt.ofD T6.out HZ.out) (by first | decide | simp [bz, newB, Bf.put, Bf.setStamp, Bf.key]) (by first | decide | simp [bz, newB, Bf.put, Bf.setStamp, Bf.key]) (by first | decide | simp [bz, newB, Bf.put, Bf.setStamp, Bf.key])).mono ?_
  rintro e wA ⟨rfl, hA, hfA⟩
  have T7 := Lib.hid ((T6.out.alloc _).dstep hA hfA Fx_old)
  clear hA hfA T6
  go_wp2_with fail
  go_ret
  exact ⟨rfl, T7.out.bel⟩
end Go.Proofs.Ytjldocpjoiibjaa
