/- The cache in memory; walks of cache.New, Len. -/
import Derived.Test.YtjldocpjoiibjaaC8
namespace Go.Proofs.Ytjldocpjoiibjaa
open Go.RowKit

def Bf.key (b : Bf) : Int × Int := (b.k1, b.k2)
/-- The cells of the cache's struct. -/
def cacheC (room : Int) (mb : Nat) (v : Value) (stamp : Int) : Array Value := #[.int .i64 room, .map (some mb), v, .int .i64 stamp]
structure CIn (w : World) (cb : Nat) (room stamp : Int) (Q : List Bf) (F : Nat → Prop) (mb : Nat) (v : Value) (E : List ((Int × Int) × Value)) : Prop where
  hq : HQ w cb (cacheC room mb v stamp) Q v
  mp : Ents w mb E
  link : E.Perm (Q.map fun b => (b.key, b.ptr))
  keys : (Q.map Bf.key).Nodup
  fine : ∀ b ∈ Q, ∀ u ∈ b.data, u.oneCell' = true
  mo1 : mb ≠ cb
  mo2 : v.ownBlock ≠ some mb
  mo3 : mb ∉ Q.map (·.blk)
  f1 : F cb
  f2 : F mb
  f3 : ∀ g, v.ownBlock = some g → F g
  f4 : ∀ x, x ∈ Q.map (·.blk) → F x
  lt : ∀ x, F x → x < w.heap.size
def CAt (w : World) (cb : Nat) (room stamp : Int) (Q : List Bf) (F : Nat → Prop) : Prop := ∃ mb v E, CIn w cb room stamp Q F mb v E

theorem own_frame {w w' : World} {S : Nat → Prop} {v : Value} {n : Nat} {xs : List Value} {e : TypeId} (h : w.ownsRow 0 e 1 v n xs) (hf : Fr S w w') (hs : ∀ g, v.ownBlock = some g → ¬ S g) : w'.ownsRow 0 e 1 v n xs := by
  refine ⟨h.1, ?_⟩
  rcases h.2 with hn | ⟨g, cap, cur, rfl, h0, hg, r⟩
  · exact .inl hn
  · exact .inr ⟨g, cap, cur, rfl, h0, by rw [hf.block g (blk_lt hg) (hs g rfl)]; exact hg, r⟩
theorem HQ.frame {w w' : World} {cb : Nat} {Cc Cc' : Array Value} {Q : List Bf} {v : Value} {S : Nat → Prop} (h : HQ w cb Cc Q v) (hf : Fr S w w') (h1 : ∀ g, v.ownBlock = some g → ¬ S g) (h2 : ∀ x, x ∈ Q.map (·.blk) → ¬ S x)
    (hc : w'.heap[cb]? = some (.cells Cc' 69 (0, 0))) (hp : Cc'[2]? = some v) : HQ w' cb Cc' Q v :=
  ⟨hc, hp, own_frame h.own hf h1, fun j b hj => ⟨(h.buf j b hj).1, by rw [hf.block b.blk (blk_lt (h.buf j b hj).2) (h2 _ (List.mem_map.2 ⟨b, List.mem_of_getElem? hj, rfl⟩))]; exact (h.buf j b hj).2⟩, h.nodup, h.off1, h.off2⟩
theorem Ents.frame {w w' : World} {mb : Nat} {E : List ((Int × Int) × Value)} {S : Nat → Prop} (h : Ents w mb E) (hf : Fr S w w') (hs : ¬ S mb) : Ents w' mb E := by
  obtain ⟨es, clock, hm, he⟩ := h
  exact ⟨es, clock, by rw [hf.block mb (blk_lt hm) hs]; exact hm, he⟩
/-- What has not touched the cache's blocks leaves it as it is. -/
theorem CAt.frame {w w' : World} {cb : Nat} {room stamp : Int} {Q : List Bf} {F S : Nat → Prop} (h : CAt w cb room stamp Q F) (hf : Fr S w w') (hs : ∀ x, F x → ¬ S x) : CAt w' cb room stamp Q F := by
  obtain ⟨mb, v, E, h⟩ := h
  exact ⟨mb, v, E, h.hq.frame hf (fun g hg => hs _ (h.f3 g hg)) (fun x hx => hs _ (h.f4 x hx)) (by rw [hf.block cb (h.lt _ h.f1) (hs _ h.f1)]; exact h.hq.blk) h.hq.ptr,
    h.mp.frame hf (hs _ h.f2), h.link, h.keys, h.fine, h.mo1, h.mo2, h.mo3, h.f1, h.f2, h.f3, h.f4, fun x hx => Nat.lt_of_lt_of_le (h.lt x hx) hf.size⟩
/-- The cache's blocks behind a call: those that were, and new ones. -/
def Fx (F : Nat → Prop) (w w' : World) (x : Nat) : Prop := F x ∨ (w.heap.size ≤ x ∧ x < w'.heap.size)
theorem CAt.blks {w : World} {cb : Nat} {room stamp : Int} {Q : List Bf} {F : Nat → Prop} (h : CAt w cb room stamp Q F) : F cb ∧ cb < w.heap.size := by
  obtain ⟨mb, v, E, h⟩ := h
  exact ⟨h.f1, h.lt _ h.f1⟩

theorem cLen_any {w : World} {cb : Nat} {room stamp : Int} {Q : List Bf} {F : Nat → Prop} (h : CAt w cb room stamp Q F) :
    Calls Try.prog 13 #[.pointer (some ⟨cb, 0, none⟩)] w fun e w' => e = .returned (.int .i64 Q.length) ∧ w' = w := by
  obtain ⟨mb, v, E, h⟩ := h
  have c1 : w.cell? ⟨cb, 1, none⟩ = some (.map (some mb)) := cell_blk_some h.hq.blk rfl
  have hl := run_len_ents Try.underlying65 h.mp
  have hlen : E.length = Q.length := by rw [h.link.length_eq, List.length_map]
  rw [hlen] at hl
  clear h hlen
  go_enter Try.func13, Try.ntmps13
  go_wp2_with fail
  go_ret
  exact ⟨rfl, rfl⟩

theorem cNew_any {room : Int} (h0 : 1 ≤ room) (h1 : room ≤ 4096) (w : World) :
    Calls Try.prog 9 #[.int .i64 room] w fun e w' => ∃ cb, e = .returned (.tuple #[.pointer (some ⟨cb, 0, none⟩), .int .i64 0]) ∧ CAt w' cb room 0 [] (fun x => w.heap.size ≤ x ∧ x < w'.heap.size) ∧ Below w.heap.size w w' := by
  have q1 : decide (room < 1) = false := dec_false (by omega)
  have q2 : decide (4096 < room) = false := dec_false (by omega)
  have mm : ∀ (w : World), (Instr.makeMap 65 none).run Try.prog w = .ok (.map (some w.heap.size)) (w.alloc (.map #[] 0)) := fun w => by first | exact run_makeMap _ w | exact run_makeMap _ _ | simp [Instr.makeMap, run_newObj] | rfl
  go_enter Try.func9, Try.ntmps9
  go_wp2_with fail
  go_ret2
  refine ⟨w.heap.size + 1, rfl, ⟨w.heap.size, .slice none 0 0, [], ⟨?_, rfl, World.ownsRow_nil _ _ _ _, fun j b hj => (by simp at hj), List.nodup_nil, by simp, fun g hg => (by cases hg)⟩, ⟨#[], 0, ?_, rfl⟩, .refl _, List.nodup_nil, fun b hb => (by cases hb), by omega, by simp [Value.ownBlock], by simp, ?_, ?_, fun g hg => (by cases hg), fun x hx => (by simp at hx), fun x hx => hx.2⟩, ?_⟩
  · exact blk_new (by simp)
  · exact blk_old (blk_new rfl)
  · constructor <;> simp <;> omega
  · constructor <;> simp <;> omega
  · exact below_alloc (below_alloc (Below.refl _ w) (Nat.le_refl _) _) (Nat.le_refl _) _

/-! ### the use of a buffer -/
def Bf.setStamp (b : Bf) (s : Int) : Bf := { b with stamp := s }
theorem Bf.stampCells {b : Bf} (h : b.ok) (i s : Int) : (b.cells i).setIfInBounds 68 (.int .i64 s) = (b.setStamp s).cells i := by
  unfold Bf.cells Bf.setStamp
  rw [List.setIfInBounds_toArray]
  congr 1
  show _ :: _ :: ((b.data ++ _).set 66 _) = _
  rw [set_tail _ _ 66 h 2 rfl]; rfl
/-- One buffer has turned, its block and its place as they were. -/
theorem HQ.upd {w w' : World} {cb : Nat} {Cc Cc' : Array Value} {Q : List Bf} {v : Value} (h : HQ w cb Cc Q v) {i : Nat} {b b' : Bf} (hi : Q[i]? = some b) (hb : b'.blk = b.blk) (hok : b'.ok) (hf : Fr (fun x => x = b.blk ∨ x = cb) w w')
    (hn : w'.heap[b.blk]? = some (.cells (b'.cells i) 74 (0, 0))) (hc : w'.heap[cb]? = some (.cells Cc' 69 (0, 0))) (hp : Cc'[2]? = some v) : HQ w' cb Cc' (Q.set i b') v := by
  have hil : i < Q.length := (List.getElem?_eq_some_iff.1 hi).1
  have hm : b.blk ∈ Q.map (·.blk) := List.mem_map.2 ⟨b, List.mem_of_getElem? hi, rfl⟩
  have hmap : (Q.set i b').map (·.blk) = Q.map (·.blk) := by
    rw [List.map_set, hb]
    apply List.ext_getElem?
    intro j
    rw [List.getElem?_set]
    split
    · rename_i hj; subst hj
      rw [List.getElem?_map, hi]; simp [hil]
    · rfl
  have hptr : (Q.set i b').map Bf.ptr = Q.map Bf.ptr := by
    have : ∀ L : List Bf, L.map Bf.ptr = (L.map (·.blk)).map fun x => Value.pointer (some ⟨x, 0, none⟩) := fun L => by rw [List.map_map]; rfl
    rw [this, this, hmap]
  refine ⟨hc, hp, ?_, ?_, by rw [hmap]; exact h.nodup, by rw [hmap]; exact h.off1, fun g hg => by rw [hmap]; exact h.off2 g hg⟩
  · rw [List.length_set, hptr]
    exact own_frame h.own hf fun g hg hs => by
      obtain ⟨o1, o2⟩ := h.off2 g hg
      rcases hs with hs | hs
      · exact o2 (hs ▸ hm)
      · exact o1 hs
  · intro j x hx
    rw [List.getElem?_set] at hx
    split at hx
    · rename_i hj; subst hj
      first | rw [if_pos hil] at hx | skip
      obtain rfl := Option.some.inj hx
      exact ⟨hok, by rw [hb]; exact hn⟩
    · rename_i hj
      obtain ⟨o1, o2⟩ := h.buf j x hx
      refine ⟨o1, ?_⟩
      rw [hf.block x.blk (blk_lt o2) ?_]; exact o2
      rintro (hs | hs)
      · have h1 : (Q.map (·.blk))[i]? = some b.blk := by rw [List.getElem?_map, hi]; rfl
        have h2 : (Q.map (·.blk))[j]? = some b.blk := by rw [List.getElem?_map, hx, ← hs]; rfl
        exact hj ((List.getElem?_inj (by simpa using hil) h.nodup).1 (h1.trans h2.symm))
      · exact h.off1 (hs ▸ List.mem_map.2 ⟨x, List.mem_of_getElem? hx, rfl⟩)
end Go.Proofs.Ytjldocpjoiibjaa
