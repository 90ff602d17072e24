/- Sets as lists of ranges: the mathematics. -/
import Derived.RowKit
namespace Go.Proofs.YtbhcgjahlfpjoaaDoor

abbrev Rg := Int × Int
def maxR : Int := 1114111
/-- A set's list: rising, within the runes, no two ranges touch. -/
def Canon (l : List Rg) : Prop := (∀ p ∈ l, 0 ≤ p.1 ∧ p.1 ≤ p.2 ∧ p.2 ≤ maxR) ∧ l.Pairwise fun p q => p.2 + 2 ≤ q.1
def mem (l : List Rg) (c : Int) : Prop := ∃ p ∈ l, p.1 ≤ c ∧ c ≤ p.2

theorem mem_nil (c : Int) : ¬ mem [] c := by rintro ⟨p, h, _⟩; cases h
theorem mem_cons (p : Rg) (l : List Rg) (c : Int) : mem (p :: l) c ↔ (p.1 ≤ c ∧ c ≤ p.2) ∨ mem l c := by
  simp [mem]
theorem mem_append (l r : List Rg) (c : Int) : mem (l ++ r) c ↔ mem l c ∨ mem r c := by
  simp only [mem, List.mem_append]
  constructor
  · rintro ⟨p, h | h, h2⟩
    · exact .inl ⟨p, h, h2⟩
    · exact .inr ⟨p, h, h2⟩
  · rintro (⟨p, h, h2⟩ | ⟨p, h, h2⟩)
    · exact ⟨p, .inl h, h2⟩
    · exact ⟨p, .inr h, h2⟩
theorem mem_one (p : Rg) (c : Int) : mem [p] c ↔ p.1 ≤ c ∧ c ≤ p.2 := by simp [mem]
theorem canon_nil : Canon [] := ⟨fun _ h => (by cases h), List.Pairwise.nil⟩
theorem canon_cons {p : Rg} {l : List Rg} : Canon (p :: l) ↔ (0 ≤ p.1 ∧ p.1 ≤ p.2 ∧ p.2 ≤ maxR) ∧ (∀ q ∈ l, p.2 + 2 ≤ q.1) ∧ Canon l := by
  unfold Canon
  rw [List.pairwise_cons]
  constructor
  · rintro ⟨h1, h2, h3⟩
    exact ⟨h1 p (.head _), h2, fun q hq => h1 q (.tail _ hq), h3⟩
  · rintro ⟨h1, h2, h3, h4⟩
    refine ⟨fun q hq => ?_, h2, h4⟩
    cases hq with
    | head => exact h1
    | tail _ hq => exact h3 q hq
theorem mem_range {l : List Rg} (h : Canon l) {c : Int} (hc : mem l c) : 0 ≤ c ∧ c ≤ maxR := by
  obtain ⟨p, hp, h1, h2⟩ := hc
  have := h.1 p hp
  omega

/-- A set has one list alone. -/
theorem canon_unique : ∀ {l l' : List Rg}, Canon l → Canon l' → (∀ c, mem l c ↔ mem l' c) → l = l'
  | [], [], _, _, _ => rfl
  | [], q :: r, _, h', h => by
    have := (canon_cons.1 h').1
    exact absurd ((h q.1).2 ((mem_cons _ _ _).2 (.inl ⟨Int.le_refl _, this.2.1⟩))) (mem_nil _)
  | p :: r, [], h', _, h => by
    have := (canon_cons.1 h').1
    exact absurd ((h p.1).1 ((mem_cons _ _ _).2 (.inl ⟨Int.le_refl _, this.2.1⟩))) (mem_nil _)
  | p :: r, q :: s, h1, h2, h => by
    obtain ⟨a1, a2, a3⟩ := canon_cons.1 h1
    obtain ⟨b1, b2, b3⟩ := canon_cons.1 h2
    have ge1 : ∀ c, mem r c → p.2 + 2 ≤ c := fun c ⟨x, hx, h3, _⟩ => by have := a2 x hx; omega
    have ge2 : ∀ c, mem s c → q.2 + 2 ≤ c := fun c ⟨x, hx, h3, _⟩ => by have := b2 x hx; omega
    have hm1 : ∀ c, p.1 ≤ c → c ≤ p.2 → (q.1 ≤ c ∧ c ≤ q.2) ∨ mem s c := fun c h3 h4 => (mem_cons _ _ _).1 ((h c).1 ((mem_cons _ _ _).2 (.inl ⟨h3, h4⟩)))
    have hm2 : ∀ c, q.1 ≤ c → c ≤ q.2 → (p.1 ≤ c ∧ c ≤ p.2) ∨ mem r c := fun c h3 h4 => (mem_cons _ _ _).1 ((h c).2 ((mem_cons _ _ _).2 (.inl ⟨h3, h4⟩)))
    have e1 : p.1 = q.1 := by
      have x1 : q.1 ≤ p.1 := by
        rcases hm1 p.1 (Int.le_refl _) a1.2.1 with h3 | h3
        · exact h3.1
        · have := ge2 _ h3; omega
      have x2 : p.1 ≤ q.1 := by
        rcases hm2 q.1 (Int.le_refl _) b1.2.1 with h3 | h3
        · exact h3.1
        · have := ge1 _ h3; omega
      omega
    have e2 : p.2 = q.2 := by
      rcases Int.lt_trichotomy p.2 q.2 with h3 | h3 | h3
      · exfalso
        rcases hm2 (p.2 + 1) (by omega) (by omega) with h4 | h4
        · omega
        · have := ge1 _ h4; omega
      · exact h3
      · exfalso
        rcases hm1 (q.2 + 1) (by omega) (by omega) with h4 | h4
        · omega
        · have := ge2 _ h4; omega
    have e : p = q := Prod.ext e1 e2
    subst e
    congr 1
    refine canon_unique a3 b3 fun c => ?_
    have hc := h c
    rw [mem_cons, mem_cons] at hc
    constructor
    · intro h3
      rcases hc.1 (.inr h3) with h4 | h4
      · have := ge1 _ h3; omega
      · exact h4
    · intro h3
      rcases hc.2 (.inr h3) with h4 | h4
      · have := ge2 _ h3; omega
      · exact h4

theorem canon_append {l : List Rg} {p : Rg} (h : Canon l) (h1 : 0 ≤ p.1 ∧ p.1 ≤ p.2 ∧ p.2 ≤ maxR) (h2 : ∀ q ∈ l, q.2 + 2 ≤ p.1) : Canon (l ++ [p]) := by
  refine ⟨fun q hq => ?_, List.pairwise_append.2 ⟨h.2, List.pairwise_singleton _ _, fun a ha b hb => ?_⟩⟩
  · rcases List.mem_append.1 hq with h3 | h3
    · exact h.1 q h3
    · obtain rfl := List.mem_singleton.1 h3; exact h1
  · obtain rfl := List.mem_singleton.1 hb; exact h2 a ha
theorem canon_init {l : List Rg} {q : Rg} (h : Canon (l ++ [q])) : Canon l ∧ (0 ≤ q.1 ∧ q.1 ≤ q.2 ∧ q.2 ≤ maxR) ∧ ∀ p ∈ l, p.2 + 2 ≤ q.1 := by
  have := List.pairwise_append.1 h.2
  exact ⟨⟨fun p hp => h.1 p (List.mem_append.2 (.inl hp)), this.1⟩, h.1 q (by simp), fun p hp => this.2.2 p hp q (by simp)⟩

/-- A stretch is put behind: it goes on with the last range, or is one more. -/
def putR (out : List Rg) (x : Rg) : List Rg :=
  match out.getLast? with
  | some q => if q.2 + 1 = x.1 then out.dropLast ++ [(q.1, x.2)] else out ++ [x]
  | none => [x]

theorem putR_ok {out : List Rg} {x : Rg} (h : Canon out) (hb : ∀ p ∈ out, p.2 < x.1) (hx : 0 ≤ x.1 ∧ x.1 ≤ x.2 ∧ x.2 ≤ maxR) :
    Canon (putR out x) ∧ (∀ p ∈ putR out x, p.2 ≤ x.2) ∧ ∀ c, mem (putR out x) c ↔ mem out c ∨ (x.1 ≤ c ∧ c ≤ x.2) := by
  unfold putR
  rcases List.eq_nil_or_concat out with rfl | ⟨l, q, rfl⟩
  · simp only [List.getLast?_nil]
    exact ⟨canon_append (l := []) canon_nil hx (fun _ h => by cases h), fun p hp => by obtain rfl := List.mem_singleton.1 hp; exact Int.le_refl _, fun c => by rw [mem_one]; simp [mem_nil]⟩
  · rw [List.concat_eq_append] at *
    simp only [List.getLast?_append, List.getLast?_singleton, Option.some_or, List.dropLast_concat]
    obtain ⟨c1, c2, c3⟩ := canon_init h
    have hq := hb q (by simp)
    by_cases he : q.2 + 1 = x.1
    · rw [if_pos he]
      refine ⟨canon_append c1 ⟨c2.1, by dsimp only; omega, hx.2.2⟩ c3, fun p hp => ?_, fun c => ?_⟩
      · rcases List.mem_append.1 hp with h3 | h3
        · have := hb p (by simp [h3]); omega
        · obtain rfl := List.mem_singleton.1 h3; exact Int.le_refl _
      · rw [mem_append, mem_append, mem_one, mem_one]
        dsimp only
        constructor
        · rintro (h3 | h3)
          · exact .inl (.inl h3)
          · by_cases h4 : c ≤ q.2
            · exact .inl (.inr ⟨h3.1, h4⟩)
            · exact .inr (by omega)
        · rintro ((h3 | h3) | h3)
          · exact .inl h3
          · exact .inr (by omega)
          · exact .inr (by omega)
    · rw [if_neg he]
      refine ⟨canon_append h hx fun p hp => ?_, fun p hp => ?_, fun c => by rw [mem_append, mem_one]⟩
      · rcases List.mem_append.1 hp with h3 | h3
        · have := c3 p h3; omega
        · obtain rfl := List.mem_singleton.1 h3; omega
      · rcases List.mem_append.1 hp with h3 | h3
        · have := hb p h3; omega
        · obtain rfl := List.mem_singleton.1 h3; exact Int.le_refl _

/-- The stretches between edges, each with how many ranges are there. -/
def spansF : Int → Int → List Rg → List (Rg × Int)
  | f, n, [] => if f ≤ maxR then [((f, maxR), n)] else []
  | f, n, e :: r => (if f < e.1 then [((f, e.1 - 1), n)] else []) ++ spansF (if f < e.1 then e.1 else f) (n + e.2) r
def stepF (is : Int → Bool) (out : List Rg) (x : Rg × Int) : List Rg := if is x.2 = true then putR out x.1 else out
def thoseF (is : Int → Bool) (E : List Rg) : List Rg := (spansF 0 0 E).foldl (stepF is) []
/-- How many ranges are there at a rune. -/
def cnt : List Rg → Int → Int
  | [], _ => 0
  | e :: r, c => (if e.1 ≤ c then e.2 else 0) + cnt r c

theorem cnt_perm {E E' : List Rg} (h : E.Perm E') (c : Int) : cnt E c = cnt E' c := by
  induction h with
  | nil => rfl
  | cons x _ ih => simp [cnt, ih]
  | swap x y l => simp only [cnt]; omega
  | trans _ _ i1 i2 => rw [i1, i2]
theorem cnt_append (E E' : List Rg) (c : Int) : cnt (E ++ E') c = cnt E c + cnt E' c := by
  induction E with
  | nil => simp [cnt]
  | cons e r ih => simp only [List.cons_append, cnt, ih]; omega
theorem cnt_zero {E : List Rg} {c : Int} (h : ∀ e ∈ E, c < e.1) : cnt E c = 0 := by
  induction E with
  | nil => rfl
  | cons e r ih =>
    have h1 := h e (.head _)
    simp only [cnt]
    rw [ih fun x hx => h x (.tail _ hx), if_neg (by omega)]
    rfl

theorem stepF_ok (is : Int → Bool) {out : List Rg} {x : Rg} {n : Int} (h : Canon out) (hb : ∀ p ∈ out, p.2 < x.1) (hx : 0 ≤ x.1 ∧ x.1 ≤ x.2 ∧ x.2 ≤ maxR) :
    Canon (stepF is out (x, n)) ∧ (∀ p ∈ stepF is out (x, n), p.2 ≤ x.2) ∧ ∀ c, mem (stepF is out (x, n)) c ↔ mem out c ∨ (is n = true ∧ x.1 ≤ c ∧ c ≤ x.2) := by
  unfold stepF
  dsimp only
  by_cases hi : is n = true
  · rw [if_pos hi]
    obtain ⟨a, b, c⟩ := putR_ok h hb hx
    exact ⟨a, b, fun y => by rw [c]; simp [hi]⟩
  · rw [if_neg hi]
    exact ⟨h, fun p hp => by have := hb p hp; omega, fun c => by simp [hi]⟩

theorem spans_ok (is : Int → Bool) : ∀ (E : List Rg) (f n : Int) (out : List Rg), E.Pairwise (fun a b => a.1 ≤ b.1) → (∀ e ∈ E, e.1 ≤ maxR + 1) → 0 ≤ f → f ≤ maxR + 1 → Canon out → (∀ p ∈ out, p.2 < f) →
    Canon ((spansF f n E).foldl (stepF is) out) ∧ ∀ c, mem ((spansF f n E).foldl (stepF is) out) c ↔ mem out c ∨ (f ≤ c ∧ c ≤ maxR ∧ is (n + cnt E c) = true)
  | [], f, n, out, _, _, h0, h1, hc, hb => by
    unfold spansF
    by_cases hf : f ≤ maxR
    · rw [if_pos hf]
      simp only [List.foldl_cons, List.foldl_nil]
      obtain ⟨a, _, b⟩ := stepF_ok is (x := (f, maxR)) (n := n) hc hb ⟨h0, hf, Int.le_refl _⟩
      refine ⟨a, fun c => ?_⟩
      rw [b, cnt, Int.add_zero]
      dsimp only
      constructor
      · rintro (h | ⟨h3, h4, h5⟩)
        · exact .inl h
        · exact .inr ⟨h4, h5, h3⟩
      · rintro (h | ⟨h3, h4, h5⟩)
        · exact .inl h
        · exact .inr ⟨h5, h3, h4⟩
    · rw [if_neg hf]
      exact ⟨hc, fun c => ⟨.inl, fun h => h.elim id fun h => by omega⟩⟩
  | e :: r, f, n, out, hs, he, h0, h1, hc, hb => by
    have hs' := List.pairwise_cons.1 hs
    have he1 := he e (.head _)
    unfold spansF
    by_cases hf : f < e.1
    · rw [if_pos hf, if_pos hf]
      simp only [List.singleton_append, List.foldl_cons]
      obtain ⟨a, b, d⟩ := stepF_ok is (x := (f, e.1 - 1)) (n := n) hc hb ⟨h0, by dsimp only; omega, by dsimp only; omega⟩
      obtain ⟨i1, i2⟩ := spans_ok is r e.1 (n + e.2) _ hs'.2 (fun x hx => he x (.tail _ hx)) (by omega) he1 a (fun p hp => by have := b p hp; dsimp only at this; omega)
      refine ⟨i1, fun c => ?_⟩
      rw [i2, d]
      dsimp only
      by_cases hce : e.1 ≤ c
      · have ec : n + e.2 + cnt r c = n + cnt (e :: r) c := by simp only [cnt]; rw [if_pos hce]; omega
        rw [ec]
        constructor
        · rintro ((h | ⟨h3, h4, h5⟩) | ⟨h3, h4, h5⟩)
          · exact .inl h
          · omega
          · exact .inr ⟨by omega, h4, h5⟩
        · rintro (h | ⟨h3, h4, h5⟩)
          · exact .inl (.inl h)
          · exact .inr ⟨hce, h4, h5⟩
      · have ec : cnt (e :: r) c = 0 := cnt_zero fun x hx => by
          cases hx with
          | head => omega
          | tail _ hx => have := hs'.1 x hx; omega
        rw [ec, Int.add_zero]
        constructor
        · rintro ((h | ⟨h3, h4, h5⟩) | ⟨h3, h4, h5⟩)
          · exact .inl h
          · exact .inr ⟨h4, by omega, h3⟩
          · omega
        · rintro (h | ⟨h3, h4, h5⟩)
          · exact .inl (.inl h)
          · exact .inl (.inr ⟨h5, h3, by omega⟩)
    · rw [if_neg hf, if_neg hf]
      simp only [List.nil_append]
      obtain ⟨i1, i2⟩ := spans_ok is r f (n + e.2) out hs'.2 (fun x hx => he x (.tail _ hx)) h0 h1 hc hb
      refine ⟨i1, fun c => ?_⟩
      rw [i2]
      constructor
      · rintro (h | ⟨h3, h4, h5⟩)
        · exact .inl h
        · refine .inr ⟨h3, h4, ?_⟩
          have ec : n + e.2 + cnt r c = n + cnt (e :: r) c := by simp only [cnt]; rw [if_pos (by omega)]; omega
          rw [← ec]; exact h5
      · rintro (h | ⟨h3, h4, h5⟩)
        · exact .inl h
        · refine .inr ⟨h3, h4, ?_⟩
          have ec : n + e.2 + cnt r c = n + cnt (e :: r) c := by simp only [cnt]; rw [if_pos (by omega)]; omega
          rw [ec]; exact h5

theorem those_ok (is : Int → Bool) {E : List Rg} (hs : E.Pairwise fun a b => a.1 ≤ b.1) (he : ∀ e ∈ E, e.1 ≤ maxR + 1) :
    Canon (thoseF is E) ∧ ∀ c, mem (thoseF is E) c ↔ (0 ≤ c ∧ c ≤ maxR ∧ is (cnt E c) = true) := by
  obtain ⟨a, b⟩ := spans_ok is E 0 0 [] hs he (Int.le_refl _) (by decide) canon_nil (fun _ h => by cases h)
  exact ⟨a, fun c => by rw [thoseF, b, Int.zero_add]; simp [mem_nil]⟩

/-- The edges of a list's ranges. -/
def edgesF : List Rg → List Rg
  | [] => []
  | x :: r => (if max x.1 0 ≤ min x.2 maxR then [(max x.1 0, 1), (min x.2 maxR + 1, -1)] else []) ++ edgesF r
/-- How many ranges have a rune. -/
def num : List Rg → Int → Int
  | [], _ => 0
  | x :: r, c => (if x.1 ≤ c ∧ c ≤ x.2 then 1 else 0) + num r c
theorem edgesF_append (a b : List Rg) : edgesF (a ++ b) = edgesF a ++ edgesF b := by
  induction a with
  | nil => rfl
  | cons x r ih => simp only [List.cons_append, edgesF, ih, List.append_assoc]
theorem edgesF_le : ∀ (l : List Rg), ∀ e ∈ edgesF l, e.1 ≤ maxR + 1
  | [], e, h => by cases h
  | x :: r, e, h => by
    unfold edgesF at h
    rcases List.mem_append.1 h with h | h
    · split at h
      · simp at h
        unfold maxR at *
        rcases h with rfl | rfl <;> dsimp only <;> omega
      · cases h
    · exact edgesF_le r e h
theorem cnt_edges (l : List Rg) (c : Int) (h0 : 0 ≤ c) (h1 : c ≤ maxR) : cnt (edgesF l) c = num l c := by
  induction l with
  | nil => rfl
  | cons x r ih =>
    simp only [edgesF, cnt_append, num, ih]
    congr 1
    unfold maxR at *
    split
    · simp only [cnt]
      split <;> split <;> split <;> omega
    · simp only [cnt]
      split <;> omega
theorem num_nonneg (l : List Rg) (c : Int) : 0 ≤ num l c := by
  induction l with
  | nil => exact Int.le_refl _
  | cons x r ih => simp only [num]; split <;> omega
theorem num_pos (l : List Rg) (c : Int) : 0 < num l c ↔ mem l c := by
  induction l with
  | nil => simp [num, mem_nil]
  | cons x r ih =>
    have := num_nonneg r c
    rw [mem_cons, ← ih]
    simp only [num]
    split
    next h => simp [h]; omega
    next h => simp [h]
theorem num_append (a b : List Rg) (c : Int) : num (a ++ b) c = num a c + num b c := by
  induction a with
  | nil => simp [num]
  | cons x r ih => simp only [List.cons_append, num, ih]; omega
theorem num_canon {l : List Rg} (h : Canon l) (c : Int) : num l c ≤ 1 := by
  induction l with
  | nil => simp [num]
  | cons x r ih =>
    obtain ⟨h1, h2, h3⟩ := canon_cons.1 h
    have h4 := ih h3
    simp only [num]
    split
    next h5 =>
      have : ¬ 0 < num r c := by
        rw [num_pos]
        rintro ⟨q, hq, h6, h7⟩
        have := h2 q hq
        omega
      omega
    next h5 => omega

/-- What the program's functions make, of whatever sorted list of the edges. -/
structure SetOf (P : Int → Prop) (l : List Rg) : Prop where
  canon : Canon l
  mem : ∀ c, mem l c ↔ (0 ≤ c ∧ c ≤ maxR ∧ P c)
theorem SetOf.unique {P Q : Int → Prop} {l l' : List Rg} (h : SetOf P l) (h' : SetOf Q l') (hPQ : ∀ c, 0 ≤ c → c ≤ maxR → (P c ↔ Q c)) : l = l' :=
  canon_unique h.canon h'.canon fun c => by
    rw [h.mem, h'.mem]
    constructor
    · rintro ⟨a, b, d⟩; exact ⟨a, b, (hPQ c a b).1 d⟩
    · rintro ⟨a, b, d⟩; exact ⟨a, b, (hPQ c a b).2 d⟩
theorem SetOf.cong {P Q : Int → Prop} {l : List Rg} (h : SetOf P l) (hPQ : ∀ c, 0 ≤ c → c ≤ maxR → (P c ↔ Q c)) : SetOf Q l :=
  ⟨h.canon, fun c => by
    rw [h.mem]
    constructor
    · rintro ⟨a, b, d⟩; exact ⟨a, b, (hPQ c a b).1 d⟩
    · rintro ⟨a, b, d⟩; exact ⟨a, b, (hPQ c a b).2 d⟩⟩
theorem SetOf.self {l : List Rg} (h : Canon l) : SetOf (Go.Proofs.YtbhcgjahlfpjoaaDoor.mem l) l := ⟨h, fun _ => ⟨fun hc => ⟨(mem_range h hc).1, (mem_range h hc).2, hc⟩, fun hc => hc.2.2⟩⟩

theorem those_setOf (is : Int → Bool) {L E : List Rg} (hp : (edgesF L).Perm E) (hs : E.Pairwise fun a b => a.1 ≤ b.1) : SetOf (fun c => is (num L c) = true) (thoseF is E) := by
  obtain ⟨a, b⟩ := those_ok is hs fun e he => edgesF_le L e (hp.mem_iff.2 he)
  refine ⟨a, fun c => ?_⟩
  rw [b]
  constructor
  · rintro ⟨h1, h2, h3⟩; rw [← cnt_perm hp, cnt_edges L c h1 h2] at h3; exact ⟨h1, h2, h3⟩
  · rintro ⟨h1, h2, h3⟩; rw [← cnt_perm hp, cnt_edges L c h1 h2]; exact ⟨h1, h2, h3⟩
end Go.Proofs.YtbhcgjahlfpjoaaDoor
