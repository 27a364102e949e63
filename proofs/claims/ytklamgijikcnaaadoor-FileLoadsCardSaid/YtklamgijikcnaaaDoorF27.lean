/- Plainly: addresses that are unlike; which are there behind a step, which are gone. -/
import Derived.Test.YtklamgijikcnaaaDoorF25
namespace Go.Proofs.YtklamgijikcnaaaDoor
open Go.RowKit

/-- The addresses that are told. -/
def liveA (a : Int → Int) (y : Int) : Prop := y ≠ 0 ∧ ∃ c, a c = y
def UniqA (a : Int → Int) : Prop := ∀ c c', a c ≠ 0 → a c = a c' → c = c'
/-- The list of those that are gone. -/
def GoneOf (a b : Int → Int) (L : List Int) : Prop := L.Pairwise (· < ·) ∧ ∀ y, y ∈ L ↔ ∃ c, a c = y ∧ y ≠ 0 ∧ b c ≠ y
open Classical in
/-- The map that counts each of P once. -/
noncomputable def oneF (P : Int → Prop) : Int → Option Value := fun y => if P y then some (.int .i64 1) else none
theorem oneF_zero : oneF (fun _ => False) = fun _ => none := by funext y; unfold oneF; rw [if_neg id]
theorem oneF_some {P : Int → Prop} (y : Int) : (oneF P y).isSome = true ↔ P y := by
  unfold oneF
  by_cases h : P y
  · rw [if_pos h]; simp [h]
  · rw [if_neg h]; simp [h]
theorem oneF_at {P : Int → Prop} {y : Int} (h : P y) : oneF P y = some (.int .i64 1) := by unfold oneF; rw [if_pos h]
theorem oneF_no {P : Int → Prop} {y : Int} (h : ¬ P y) : oneF P y = none := by unfold oneF; rw [if_neg h]
theorem oneF_put {P : Int → Prop} (y : Int) : putK (oneF P) y (.int .i64 1) = oneF (fun z => P z ∨ z = y) := by
  funext z
  by_cases e : z = y
  · rw [e, putK_self, oneF_at (.inr rfl)]
  · rw [putK_other e]
    by_cases h : P z
    · rw [oneF_at h, oneF_at (.inl h)]
    · rw [oneF_no h, oneF_no (fun hx => hx.elim h e)]
theorem oneF_del {P : Int → Prop} (y : Int) : delK (oneF P) y = oneF (fun z => P z ∧ z ≠ y) := by
  funext z
  by_cases e : z = y
  · rw [e, delK_self, oneF_no (fun hx => hx.2 rfl)]
  · rw [delK_other e]
    by_cases h : P z
    · rw [oneF_at h, oneF_at ⟨h, e⟩]
    · rw [oneF_no h, oneF_no (fun hx => h hx.1)]
theorem oneF_congr {P Q : Int → Prop} (h : ∀ y, P y ↔ Q y) : oneF P = oneF Q := by rw [show P = Q from funext fun y => propext (h y)]
/-- A step: each address stays, or is gone; x is told of n. -/
def MoveA (a b : Int → Int) (n x : Int) : Prop := (∀ c, b c = a c ∨ b c = 0 ∨ b c = x ∧ c = n) ∧ (x ≠ 0 → b n = x ∧ ¬ liveA a x)
theorem MoveA.uniq {a b : Int → Int} {n x : Int} (h : MoveA a b n x) (hu : UniqA a) : UniqA b := fun c c' hc he => by
  rcases h.1 c with e | e | ⟨e, e2⟩
  · rcases h.1 c' with f | f | ⟨f, f2⟩
    · rw [e] at hc he; rw [f] at he; exact hu c c' hc he
    · rw [he, f] at hc; exact absurd rfl hc
    · have hx : x ≠ 0 := by rw [← f, ← he]; exact hc
      exact absurd ⟨hx, c, by rw [← e, he, f]⟩ (h.2 hx).2
  · exact absurd e hc
  · rcases h.1 c' with f | f | ⟨f, f2⟩
    · have hx : x ≠ 0 := by rw [← e]; exact hc
      exact absurd ⟨hx, c', by rw [← f, ← he, e]⟩ (h.2 hx).2
    · rw [he, f] at hc; exact absurd rfl hc
    · rw [e2, f2]
theorem MoveA.live {a b : Int → Int} {n x : Int} (h : MoveA a b n x) (hu : UniqA a) (y : Int) : liveA b y ↔ (liveA a y ∨ x ≠ 0 ∧ y = x) ∧ ¬ ∃ c, a c = y ∧ y ≠ 0 ∧ b c ≠ y := by
  constructor
  · rintro ⟨hy, c, rfl⟩
    rcases h.1 c with e | e | ⟨e, e2⟩
    · refine ⟨.inl ⟨hy, c, e.symm⟩, fun ⟨c', g1, g2, g3⟩ => ?_⟩
      have := hu c c' (by rw [← e]; exact hy) (by rw [← e, g1])
      exact g3 (by rw [← this])
    · exact absurd e hy
    · have hx : x ≠ 0 := by rw [← e]; exact hy
      refine ⟨.inr ⟨hx, e⟩, fun ⟨c', g1, g2, g3⟩ => (h.2 hx).2 ⟨hx, c', by rw [g1, e]⟩⟩
  · rintro ⟨h1, h2⟩
    rcases h1 with ⟨hy, c, e⟩ | ⟨hx, e⟩
    · by_cases g : b c = y
      · exact ⟨hy, c, g⟩
      · exact absurd ⟨c, e, hy, g⟩ h2
    · exact ⟨by rw [e]; exact hx, n, by rw [e]; exact (h.2 hx).1⟩
theorem MoveA.there {a b : Int → Int} {n x : Int} {L : List Int} (h : MoveA a b n x) (hu : UniqA a) (hg : GoneOf a b L) (y : Int) : liveA b y ↔ (liveA a y ∨ x ≠ 0 ∧ y = x) ∧ y ∉ L := by
  rw [h.live hu, hg.2]
theorem GoneOf.was {a b : Int → Int} {L : List Int} (hg : GoneOf a b L) {y : Int} (h : y ∈ L) : liveA a y := by
  obtain ⟨c, h1, h2, _⟩ := (hg.2 y).1 h
  exact ⟨h2, c, h1⟩
theorem UniqA.zero : UniqA fun _ => 0 := fun _ _ h => absurd rfl h
theorem liveA_zero : liveA (fun _ => 0) = fun _ => False := funext fun _ => propext ⟨fun ⟨h1, _, h2⟩ => h1 h2.symm, False.elim⟩
section
variable {d d' : Int → Int} {m m' : MM}
theorem adr_zero : adr (fun _ => 0) (fun _ => none) = fun _ => 0 := by
  funext c
  unfold adr adrM
  split <;> rfl
theorem adr_node (h : Inv d m) {c : Int} (hc : adr d m c ≠ 0) : c ∈ nodesN := by
  by_cases h0 : 0 ≤ c
  · rw [adr_data h0] at hc
    exact mem_nodes.2 (.inl (h.d0 c hc))
  · rw [adr_meta (by omega)] at hc
    cases hq : m c with
    | none => unfold adrM at hc; rw [hq] at hc; exact absurd rfl hc
    | some v => exact mem_nodes.2 (.inr (h.metas (by rw [hq]; rfl)))
/-- Of unlike addresses, those that are gone rise. -/
theorem gone_of (h : Inv d m) (hu : UniqA (adr d m)) (b : Int → Int) : GoneOf (adr d m) b (sortI (goneL (adr d m) b)) := by
  have hm : ∀ y, y ∈ sortI (goneL (adr d m) b) ↔ ∃ c, adr d m c = y ∧ y ≠ 0 ∧ b c ≠ y := fun y => by
    rw [(sortI_perm _).mem_iff]
    unfold goneL
    rw [List.mem_map]
    constructor
    · rintro ⟨c, hc, rfl⟩
      rw [List.mem_filter] at hc
      have h2 := hc.2
      simp at h2
      exact ⟨c, rfl, h2.1, h2.2⟩
    · rintro ⟨c, rfl, h1, h2⟩
      exact ⟨c, List.mem_filter.2 ⟨adr_node h h1, by simp [h1, h2]⟩, rfl⟩
  refine ⟨?_, hm⟩
  have hn : (sortI (goneL (adr d m) b)).Nodup := by
    rw [(sortI_perm _).nodup_iff]
    unfold goneL
    refine (List.pairwise_map.2 ((nodesN_nodup.sublist List.filter_sublist).imp_of_mem fun {c c'} hc hc' hne he => ?_))
    rw [List.mem_filter] at hc
    have h2 := hc.2
    simp at h2
    exact hne (hu c c' h2.1 he)
  have hs := sortI_sorted (goneL (adr d m) b)
  exact (hs.and hn).imp fun {x y} hxy => by have := hxy.1; have := hxy.2; omega
theorem set_moveD (h : Inv d m) {n a : Int} (hn : 0 ≤ n ∧ n < 600) (ha : a ≠ 0 → ¬ liveA (adr d m) a) : MoveA (adr d m) (adr (setS d m n a).1 (setS d m n a).2.1) n a := by
  obtain ⟨h1, h2, _⟩ := setS_ok h (a := a) hn
  refine ⟨fun c => ?_, fun h0 => ⟨setS_there h hn, ha h0⟩⟩
  by_cases hc : 0 ≤ c
  · rw [adr_data hc, adr_data hc, h1]
    by_cases e : c = n
    · subst e; rw [setD_self]; exact .inr (.inr ⟨rfl, rfl⟩)
    · rw [setD_other e]; exact .inl rfl
  · rw [h2.adr (by omega)]
    split
    · exact .inl rfl
    · exact .inr (.inl rfl)
theorem adr_updM {n a u : Int} (hn : n < 0) (c : Int) : adr d (updM m n (some (a, u))) c = if c = n then a else adr d m c := by
  by_cases hc : 0 ≤ c
  · rw [adr_data hc, adr_data hc, if_neg (by omega)]
  · rw [adr_meta (by omega), adr_meta (by omega)]
    unfold adrM
    by_cases e : c = n
    · rw [e, updM_self, if_pos rfl]; rfl
    · rw [updM_other e, if_neg e]
theorem set_moveM (h : Inv d m) {n a b u : Int} (hm : m n = some (b, u)) (ha : a ≠ 0 → ¬ liveA (adr d m) a) : MoveA (adr d m) (adr d (updM m n (some (a, u)))) n a ∧ GoneOf (adr d m) (adr d (updM m n (some (a, u)))) (metaGone b a) := by
  have hn := (metasN_neg n (h.metas (by rw [hm]; rfl))).1
  have hb : adr d m n = b := by rw [adr_meta hn]; unfold adrM; rw [hm]; rfl
  refine ⟨⟨fun c => ?_, fun h0 => ⟨by rw [adr_updM hn, if_pos rfl], ha h0⟩⟩, ?_, fun y => ?_⟩
  · rw [adr_updM hn]
    by_cases e : c = n
    · rw [if_pos e]; exact .inr (.inr ⟨rfl, e⟩)
    · rw [if_neg e]; exact .inl rfl
  · unfold metaGone toldL
    split
    · exact List.Pairwise.nil
    · split
      · exact List.Pairwise.nil
      · exact List.pairwise_singleton _ _
  · have hx : (∃ c, adr d m c = y ∧ y ≠ 0 ∧ adr d (updM m n (some (a, u))) c ≠ y) ↔ b = y ∧ y ≠ 0 ∧ a ≠ y := by
      constructor
      · rintro ⟨c, h1, h2, h3⟩
        rw [adr_updM hn] at h3
        by_cases e : c = n
        · rw [if_pos e] at h3; rw [e, hb] at h1; exact ⟨h1, h2, h3⟩
        · rw [if_neg e] at h3; exact absurd h1 h3
      · rintro ⟨h1, h2, h3⟩
        exact ⟨n, by rw [hb, h1], h2, by rw [adr_updM hn, if_pos rfl]; exact h3⟩
    rw [hx]
    unfold metaGone toldL
    by_cases h1 : b = a
    · rw [if_pos h1]
      constructor
      · intro h; cases h
      · rintro ⟨rfl, _, h3⟩; exact absurd h1.symm h3
    · rw [if_neg h1]
      by_cases h2 : b = 0
      · rw [if_pos h2]
        constructor
        · intro h; cases h
        · rintro ⟨rfl, h3, _⟩; exact absurd h2 h3
      · rw [if_neg h2, List.mem_singleton]
        constructor
        · rintro rfl; exact ⟨rfl, h2, fun e => h1 e.symm⟩
        · rintro ⟨rfl, _, _⟩; rfl
theorem cut_moveD {b : Int → Int} (hl : Less (adr d m) b) : MoveA (adr d m) b 0 0 :=
  ⟨fun c => (hl c).elim .inl fun h => .inr (.inl h), fun h => absurd rfl h⟩
/-- The addresses of all places: those that are told, each once. -/
theorem places_adr (h : Inv d m) (hu : UniqA (adr d m)) : ((placesOf d m).map (·.2)).Nodup ∧ ∀ y, y ∈ (placesOf d m).map (·.2) ↔ liveA (adr d m) y := by
  constructor
  · have hn : (placesOf d m).Nodup := List.Pairwise.of_map (·.1) (fun a b hab e => hab (by rw [e])) places_nodup
    refine List.pairwise_map.2 (hn.imp_of_mem fun {p q} hp hq hne he => ?_)
    obtain ⟨k, a⟩ := p
    obtain ⟨k', a'⟩ := q
    obtain ⟨p1, p2⟩ := (mem_places h).1 hp
    obtain ⟨q1, q2⟩ := (mem_places h).1 hq
    have he : a = a' := he
    subst he
    exact hne (by rw [hu k k' (by rw [p2]; exact p1) (by rw [p2, q2])])
  · intro y
    rw [List.mem_map]
    constructor
    · rintro ⟨⟨k, a⟩, hp, rfl⟩
      obtain ⟨p1, p2⟩ := (mem_places h).1 hp
      exact ⟨p1, k, p2⟩
    · rintro ⟨hy, c, hc⟩
      exact ⟨(c, y), (mem_places h).2 ⟨hy, hc⟩, rfl⟩
end
end Go.Proofs.YtklamgijikcnaaaDoor
