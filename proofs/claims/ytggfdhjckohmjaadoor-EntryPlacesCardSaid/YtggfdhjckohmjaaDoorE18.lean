/- What the four readers of chapter 7 answer, for any slice of bytes of at most 1000: one form for all lengths. -/
import Derived.Test.YtggfdhjckohmjaaDoorE15
import Derived.Test.YtggfdhjckohmjaaDoorQuiet
namespace Go.Proofs.YtggfdhjckohmjaaDoor
open Go.RowKit

def okRM (xs : List Int) : Prop := xs.length = 64 ∧ allOkM (decI xs) ∧ mapBytes (decI xs) = xs
instance (xs : List Int) : Decidable (okRM xs) := by unfold okRM; infer_instance
def okRD (xs : List Int) : Prop := xs.length = 64 ∧ allOkD (decD xs) ∧ dirBytes (decD xs) = xs
instance (xs : List Int) : Decidable (okRD xs) := by unfold okRD; infer_instance
def mapR (xs : List Int) : List (Int × Int) := if okRM xs then decI xs else List.replicate 8 (0, 0)
def dirR (xs : List Int) : List DE := if okRD xs then decD xs else List.replicate 4 nilDE
def codeM (xs : List Int) : Int := if okRM xs then 0 else 100
def codeD (xs : List Int) : Int := if okRD xs then 0 else 100
theorem mapR_length (xs : List Int) : (mapR xs).length = 8 := by unfold mapR; split <;> simp [decI_length]
theorem dirR_length (xs : List Int) : (dirR xs).length = 4 := by unfold dirR; split <;> simp [decD_length]

/-- A slice of the bytes xs, in a block below B. -/
def SrcAt (B : Nat) (w : World) (v : Value) (xs : List Int) : Prop :=
  (xs = [] ∧ (v = .slice none 0 0 ∨ ∃ ad c, v = .slice (some ad) 0 c)) ∨ (∃ g o c, v = .slice (some ⟨g, o, none⟩) xs.length c ∧ xs.length ≤ c ∧ 0 < xs.length ∧ g < B ∧ BytesAt w g o xs)
theorem SrcAt.below {B : Nat} {w w' : World} {v : Value} {xs : List Int} (h : SrcAt B w v xs) (hb : Below B w w') : SrcAt B w' v xs := by
  rcases h with h | ⟨g, o, c, h1, h2, h3, h4, h5⟩
  · exact .inl h
  · exact .inr ⟨g, o, c, h1, h2, h3, h4, bytes_below h5 hb h4⟩
theorem SrcAt.mono {B B' : Nat} {w : World} {v : Value} {xs : List Int} (h : SrcAt B w v xs) (hb : B ≤ B') : SrcAt B' w v xs := by
  rcases h with h | ⟨g, o, c, h1, h2, h3, h4, h5⟩
  · exact .inl h
  · exact .inr ⟨g, o, c, h1, h2, h3, by omega, h5⟩
theorem SrcAt.str {B : Nat} {w : World} {v : Value} {xs : List Int} (h : SrcAt B w v xs) : (convert 26 9 v).run Tryd.prog w = .ok (.string (strOfNums xs)) w := by
  rcases h with ⟨rfl, rfl | ⟨ad, c, rfl⟩⟩ | ⟨g, o, c, rfl, _, _, _, h5⟩
  · rw [run_convert_bytes_string w 26 9 5 _ 0 0 Tryd.underlying26 Tryd.underlying5 Tryd.underlying9]
    simp [Conv.bytesToString, strOfNums] <;> rfl
  · rw [run_convert_bytes_string w 26 9 5 _ 0 c Tryd.underlying26 Tryd.underlying5 Tryd.underlying9]
    simp [Conv.bytesToString, loadCells, strOfNums] <;> rfl
  · exact strOf_bytes w g o xs h5 c
theorem SrcAt.shape {B : Nat} {w : World} {v : Value} {xs : List Int} (h : SrcAt B w v xs) : ∃ ao c, v = .slice ao xs.length c := by
  rcases h with ⟨rfl, rfl | ⟨ad, c, rfl⟩⟩ | ⟨g, o, c, rfl, _, _, _, h5⟩
  · exact ⟨none, 0, rfl⟩
  · exact ⟨some ad, c, rfl⟩
  · exact ⟨_, c, rfl⟩
/-- Either it is the nil slice, or its cells stand. -/
theorem SrcAt.news {B : Nat} {w : World} {v : Value} {xs : List Int} (h : SrcAt B w v xs) :
    (v = .slice none 0 0 ∧ xs = []) ∨ ∃ ad c, v = .slice (some ad) xs.length c ∧ ∀ (w' : World), Below B w w' → ∀ j u, (u8s xs)[j]? = some u → w'.cell? (ad.add j) = some u := by
  rcases h with ⟨rfl, rfl | ⟨ad, c, rfl⟩⟩ | ⟨g, o, c, rfl, _, h3, h4, h5⟩
  · exact .inl ⟨rfl, rfl⟩
  · exact .inr ⟨ad, c, rfl, fun w' _ j u hu => by simp [u8s] at hu⟩
  · refine .inr ⟨⟨g, o, none⟩, c, rfl, fun w' hb j u hu => ?_⟩
    have hj : j < xs.length := by have := (List.getElem?_eq_some_iff.1 hu).1; simpa [u8s_length] using this
    have hadd : (⟨g, o, none⟩ : Addr).add j = ⟨g, o + j, none⟩ := by unfold Addr.add; split <;> simp_all
    rw [hadd, bytes_below h5 hb h4 j hj, ← hu]
    simp [u8s, List.getElem?_eq_getElem hj]
theorem SrcAt.own {B : Nat} {w : World} {v : Value} {xs : List Int} (h : w.ownsRow B 5 1 v xs.length (u8s xs)) : SrcAt w.heap.size w v xs := by
  by_cases hn : 0 < xs.length
  · obtain ⟨g, cap, rfl, _, h2, h3, _, h5⟩ := own_bytes h hn
    exact .inr ⟨g, 0, cap, rfl, h3, hn, h2, h5⟩
  · obtain rfl : xs = [] := List.eq_nil_of_length_eq_zero (by omega)
    rcases h.2 with ⟨rfl, _⟩ | ⟨g, cap, cur, rfl, _⟩
    · exact .inl ⟨rfl, .inl rfl⟩
    · exact .inl ⟨rfl, .inr ⟨_, _, rfl⟩⟩

def RetsM (w : World) (xs : List Int) (e : Ending) (w' : World) : Prop := e = .returned (.tuple #[.agg (flatM (mapR xs)).toArray, .int .i64 (codeM xs)]) ∧ Below w.heap.size w w'
def RetsD (w : World) (xs : List Int) (e : Ending) (w' : World) : Prop := e = .returned (.tuple #[.agg (flatD (dirR xs)).toArray, .int .i64 (codeD xs)]) ∧ Below w.heap.size w w'
theorem retsM_short {xs : List Int} (hn : xs.length ≠ 64) {w w' : World} {e : Ending} (h : e = .returned (.tuple #[.agg zs16.toArray, .int .i64 100]) ∧ Below w.heap.size w w') : RetsM w xs e w' := by
  have hk : ¬ okRM xs := fun h => hn h.1
  refine ⟨?_, h.2⟩
  rw [h.1]; unfold mapR codeM; rw [if_neg hk, if_neg hk]; rfl
theorem retsM_read {xs : List Int} (hn : xs.length = 64) {w w' : World} {e : Ending} {L : List (Int × Int)} (hL : L = decI xs ∨ L = decR xs) (h : ReadPost w L xs e w') : RetsM w xs e w' := by
  obtain ⟨h1, h2, h3⟩ := h
  refine ⟨?_, h3⟩
  have hiff : okRM xs ↔ allOkM L ∧ mapBytes L = xs := by
    rcases hL with rfl | rfl
    · exact ⟨fun h => h.2, fun h => ⟨hn, h⟩⟩
    · exact ⟨fun h => (readM_agree xs).1 h.2, fun h => ⟨hn, (readM_agree xs).2 h⟩⟩
  unfold mapR codeM
  by_cases hk : okRM xs
  · rw [if_pos hk, if_pos hk, h1 (hiff.1 hk)]
    rcases hL with rfl | rfl
    · rfl
    · rw [readM_same xs hk.2]
  · rw [if_neg hk, if_neg hk, h2 (fun h => hk (hiff.2 h))]; rfl
theorem retsD_short {xs : List Int} (hn : xs.length ≠ 64) {w w' : World} {e : Ending} (h : e = .returned (.tuple #[.agg zsD.toArray, .int .i64 100]) ∧ Below w.heap.size w w') : RetsD w xs e w' := by
  have hk : ¬ okRD xs := fun h => hn h.1
  refine ⟨?_, h.2⟩
  rw [h.1]; unfold dirR codeD; rw [if_neg hk, if_neg hk]; rfl
theorem retsD_read {xs : List Int} (hn : xs.length = 64) {w w' : World} {e : Ending} (h : ReadPostD w (decD xs) xs e w') : RetsD w xs e w' := by
  obtain ⟨h1, h2, h3⟩ := h
  refine ⟨?_, h3⟩
  unfold dirR codeD
  by_cases hk : okRD xs
  · rw [if_pos hk, if_pos hk, h1 hk.2]
  · rw [if_neg hk, if_neg hk, h2 (fun h => hk ⟨hn, h⟩)]; rfl

theorem readMap_all {B : Nat} {w : World} {v : Value} {xs : List Int} (hb : isBytes xs) (hl : xs.length ≤ 1000) (h : SrcAt B w v xs) (hB : B ≤ w.heap.size) : Calls Tryd.prog 13 #[v] w (RetsM w xs) := by
  by_cases hn : xs.length = 64
  · rcases h with ⟨rfl, _⟩ | ⟨g, o, c, rfl, h2, h3, h4, h5⟩
    · simp at hn
    · rw [hn]; exact (readMap_any xs hn hb g o c (by omega) w (by omega) h5).mono fun e w' h => retsM_read hn (.inl rfl) h
  · obtain ⟨ao, c, rfl⟩ := h.shape
    exact (readMap_short ao _ c hn (by omega) w).mono fun e w' h => retsM_short hn h
theorem refReadMap_all {B : Nat} {w : World} {v : Value} {xs : List Int} (hb : isBytes xs) (hl : xs.length ≤ 1000) (h : SrcAt B w v xs) (hB : B ≤ w.heap.size) : Calls Tryd.prog 18 #[v] w (RetsM w xs) := by
  by_cases hn : xs.length = 64
  · rcases h with ⟨rfl, _⟩ | ⟨g, o, c, rfl, h2, h3, h4, h5⟩
    · simp at hn
    · rw [hn]; exact (refReadMap_any xs hn hb g o c (by omega) w (by omega) h5).mono fun e w' h => retsM_read hn (.inr rfl) h
  · obtain ⟨ao, c, rfl⟩ := h.shape
    exact (refReadMap_short ao _ c hn (by omega) w).mono fun e w' h => retsM_short hn h
theorem readDir_all {B : Nat} {w : World} {v : Value} {xs : List Int} (hb : isBytes xs) (hl : xs.length ≤ 1000) (h : SrcAt B w v xs) (hB : B ≤ w.heap.size) : Calls Tryd.prog 17 #[v] w (RetsD w xs) := by
  by_cases hn : xs.length = 64
  · rcases h with ⟨rfl, _⟩ | ⟨g, o, c, rfl, h2, h3, h4, h5⟩
    · simp at hn
    · rw [hn]; exact (readDir_any xs hn hb g o c (by omega) w (by omega) h5).mono fun e w' h => retsD_read hn h
  · obtain ⟨ao, c, rfl⟩ := h.shape
    exact (readDir_short ao _ c hn (by omega) w).mono fun e w' h => retsD_short hn h
theorem refReadDir_all {B : Nat} {w : World} {v : Value} {xs : List Int} (hb : isBytes xs) (hl : xs.length ≤ 1000) (h : SrcAt B w v xs) (hB : B ≤ w.heap.size) : Calls Tryd.prog 19 #[v] w (RetsD w xs) := by
  by_cases hn : xs.length = 64
  · rcases h with ⟨rfl, _⟩ | ⟨g, o, c, rfl, h2, h3, h4, h5⟩
    · simp at hn
    · rw [hn]; exact (refReadDir_any xs hn hb g o c (by omega) w (by omega) h5).mono fun e w' h => retsD_read hn h
  · obtain ⟨ao, c, rfl⟩ := h.shape
    exact (refReadDir_short ao _ c hn (by omega) w).mono fun e w' h => retsD_short hn h

theorem mapBlock_back {xs : List Int} (h : okRM xs) (w : World) :
    Calls Tryd.prog 10 #[.agg (flatM (mapR xs)).toArray] w fun e w' => Ret2 (fun x y => SrcAt w'.heap.size w' x xs ∧ y = .int .i64 0) e ∧ Below w.heap.size w w' := by
  have he : mapR xs = decI xs := if_pos h
  rw [he]
  refine (mapBlock_any (decI xs) (decI_length xs) w).mono ?_
  rintro e w' ⟨h1, _, h3⟩
  obtain ⟨x, y, rfl, ho, rfl⟩ := h1 h.2.1
  refine ⟨⟨x, _, rfl, SrcAt.own (B := w.heap.size) ?_, rfl⟩, h3⟩
  rw [h.2.2, decI_length] at ho
  rw [h.1]
  exact ho
theorem dirBlock_back {xs : List Int} (h : okRD xs) (w : World) :
    Calls Tryd.prog 14 #[.agg (flatD (dirR xs)).toArray] w fun e w' => Ret2 (fun x y => SrcAt w'.heap.size w' x xs ∧ y = .int .i64 0) e ∧ Below w.heap.size w w' := by
  have he : dirR xs = decD xs := if_pos h
  rw [he]
  refine (dirBlock_any (decD xs) (decD_length xs) (decD_short xs) w).mono ?_
  rintro e w' ⟨h1, _, h3⟩
  obtain ⟨x, y, rfl, ho, rfl⟩ := h1 h.2.1
  refine ⟨⟨x, _, rfl, SrcAt.own (B := w.heap.size) ?_, rfl⟩, h3⟩
  rw [h.2.2, decD_length] at ho
  rw [h.1]
  exact ho
end Go.Proofs.YtggfdhjckohmjaaDoor
