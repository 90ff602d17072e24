/- Threads, plain: to which instructions one comes at a place, in order, each with its fit. Threads, plain: the lists of one place out of the last one's; the match that they tell. Threads, plain: begun at many places; what was come to in vain does not count. Threads, plain: begun at each place: the match is that of the first place that has one, walked anew. Threads, plain: the document's walk, depth first, and the lists of the places. Threads, plain: what the machine computes; the fits' first places rise. Threads, plain: what the machine computes where the first match is asked. Threads, plain: the longest match: the document's walk, depth first, and the lists of the places. Threads, plain: what the machine computes where the longest match is asked. Threads, plain: what the machine answers where the longest match is asked. Threads, plain: the document's walk from a place tells what the machine tells; where a match begins. Threads, plain: how many steps the machine makes. Threads, plain: the bound of the steps. -/
import Derived.Test.YtbhcgjahlfpjoaaDoorPg1
namespace Go.Proofs.YtbhcgjahlfpjoaaDoor

/-- An instruction come to, and its fit. -/
abbrev Th := Int × List Int
def inT (X : List Th) (pc : Int) : Bool := X.any fun t => t.1 == pc
theorem inT_app (X Y : List Th) (pc : Int) : inT (X ++ Y) pc = (inT X pc || inT Y pc) := by simp [inT]
theorem inT_iff {X : List Th} {pc : Int} : inT X pc = true ↔ ∃ t ∈ X, t.1 = pc := by simp [inT]

section
variable (L : List MI) (T : MI → Bool) (place : Int)
/-- The list behind an instruction. -/
def comeL : Nat → List Th → Int → List Int → List Th
  | 0, X, _, _ => X
  | k + 1, X, pc, fit =>
    if inT X pc = true then X else
    match L[pc.toNat]? with
    | none => X ++ [(pc, fit)]
    | some x =>
      if x.op = 3 then comeL k (comeL k (X ++ [(pc, fit)]) x.out fit) x.arg fit
      else if x.op = 4 then comeL k (X ++ [(pc, fit)]) x.out (fit.set x.arg.toNat place)
      else if x.op = 5 ∧ T x = true then comeL k (X ++ [(pc, fit)]) x.out fit
      else X ++ [(pc, fit)]
/-- How many steps that takes. -/
def comeS : Nat → List Th → Int → List Int → Nat
  | 0, _, _, _ => 0
  | k + 1, X, pc, fit =>
    if inT X pc = true then 1 else
    match L[pc.toNat]? with
    | none => 1
    | some x =>
      if x.op = 3 then 1 + comeS k (X ++ [(pc, fit)]) x.out fit + comeS k (comeL L T place k (X ++ [(pc, fit)]) x.out fit) x.arg fit
      else if x.op = 4 then 1 + fit.length + comeS k (X ++ [(pc, fit)]) x.out (fit.set x.arg.toNat place)
      else if x.op = 5 ∧ T x = true then 1 + comeS k (X ++ [(pc, fit)]) x.out fit
      else 1
end

section
variable {L : List MI} {T : MI → Bool} {place : Int}
theorem comeL_ext (k : Nat) : ∀ (X : List Th) (pc : Int) (fit : List Int), ∃ Z, comeL L T place k X pc fit = X ++ Z := by
  induction k with
  | zero => intro X pc fit; exact ⟨[], by simp [comeL]⟩
  | succ k ih =>
    intro X pc fit
    unfold comeL
    split
    · exact ⟨[], by simp⟩
    · split
      · exact ⟨_, rfl⟩
      · rename_i x hx
        have one : ∀ pc' fit', ∃ Z, comeL L T place k (X ++ [(pc, fit)]) pc' fit' = X ++ Z := fun pc' fit' => by
          obtain ⟨Z, hZ⟩ := ih (X ++ [(pc, fit)]) pc' fit'
          exact ⟨[(pc, fit)] ++ Z, by rw [hZ, List.append_assoc]⟩
        split
        · obtain ⟨Z, hZ⟩ := one x.out fit
          obtain ⟨Z2, hZ2⟩ := ih (comeL L T place k (X ++ [(pc, fit)]) x.out fit) x.arg fit
          exact ⟨Z ++ Z2, by rw [hZ2, hZ, List.append_assoc]⟩
        · split
          · exact one _ _
          · split
            · exact one _ _
            · exact ⟨_, rfl⟩

/-- How many instructions are not come to yet. -/
def leftT (n : Nat) (X : List Th) : Nat := (List.range n).countP fun (i : Nat) => !inT X (i : Int)
theorem countP_one {p q : Nat → Bool} {i : Nat} (hp : p i = true) (hq : q i = false) (h : ∀ j, j ≠ i → p j = q j) : ∀ n, i < n → (List.range n).countP p = (List.range n).countP q + 1 := by
  have low : ∀ n, n ≤ i → (List.range n).countP p = (List.range n).countP q := by
    intro n hn
    refine List.countP_congr fun j hj => ?_
    have hj := List.mem_range.1 hj
    rw [h j (by omega)]
  intro n
  induction n with
  | zero => intro h; omega
  | succ n ih =>
    intro hi
    rw [List.range_succ, List.countP_append, List.countP_append]
    rcases Nat.lt_or_ge i n with hlt | hge
    · rw [ih hlt]
      have : p n = q n := h n (by omega)
      simp only [List.countP_cons, List.countP_nil, this]
      omega
    · have : i = n := by omega
      subst this
      rw [low i (Nat.le_refl _)]
      simp [hp, hq]
theorem leftT_add {n : Nat} {X : List Th} {pc : Int} (fit : List Int) (h0 : 0 ≤ pc) (hn : pc < (n : Int)) (hx : inT X pc = false) : leftT n (X ++ [(pc, fit)]) + 1 = leftT n X := by
  obtain ⟨i, rfl⟩ : ∃ i : Nat, pc = (i : Int) := ⟨pc.toNat, by omega⟩
  unfold leftT
  refine (countP_one (i := i) (by rw [hx]; rfl) ?_ (fun j hj => ?_) n (by omega)).symm
  · simp [inT]
  · rw [inT_app]
    have : inT [((i : Int), fit)] (j : Int) = false := by simp [inT]; omega
    rw [this, Bool.or_false]
theorem leftT_mono {n : Nat} (X Z : List Th) : leftT n (X ++ Z) ≤ leftT n X := by
  unfold leftT
  refine List.countP_mono_left fun i _ h => ?_
  rw [inT_app] at h
  simp at h ⊢
  exact h.1
theorem leftT_come {n k : Nat} {X : List Th} {pc : Int} {fit : List Int} : leftT n (comeL L T place k X pc fit) ≤ leftT n X := by
  obtain ⟨Z, hZ⟩ := comeL_ext (L := L) (T := T) (place := place) k X pc fit
  rw [hZ]; exact leftT_mono _ _
/-- Where an instruction leads without reading. -/
def Leads3 (L : List MI) : Prop := ∀ x ∈ L, (x.op = 3 → 0 ≤ x.arg ∧ x.arg < (L.length : Int)) ∧ ((x.op = 2 ∨ x.op = 3 ∨ x.op = 4 ∨ x.op = 5) → 0 ≤ x.out ∧ x.out < (L.length : Int))
/-- With fuel enough the fuel does not matter. -/
theorem come_fuel (hL : Leads3 L) (k : Nat) : ∀ (k' : Nat) (X : List Th) (pc : Int) (fit : List Int), 0 ≤ pc → pc < (L.length : Int) → leftT L.length X < k → leftT L.length X < k' →
    comeL L T place k X pc fit = comeL L T place k' X pc fit ∧ comeS L T place k X pc fit = comeS L T place k' X pc fit := by
  induction k with
  | zero => intro _ _ _ _ _ _ h; omega
  | succ k ih =>
    intro k' X pc fit h0 hn hk hk'
    obtain ⟨k', rfl⟩ : ∃ q, k' = q + 1 := ⟨k' - 1, by omega⟩
    by_cases hin : inT X pc = true
    · simp only [comeL, comeS, if_pos hin, and_self]
    · have hin' : inT X pc = false := by simpa using hin
      have hx : L[pc.toNat]? = some L[pc.toNat] := List.getElem?_eq_getElem (by omega)
      generalize L[pc.toNat] = x at hx
      obtain ⟨l3, l2⟩ := hL x (List.mem_of_getElem? hx)
      have hl := leftT_add (n := L.length) fit h0 hn hin'
      simp only [comeL, comeS, if_neg hin, hx]
      by_cases h3 : x.op = 3
      · obtain ⟨a1, a2⟩ := l2 (by omega)
        obtain ⟨b1, b2⟩ := l3 h3
        obtain ⟨e1, e2⟩ := ih k' (X ++ [(pc, fit)]) x.out fit a1 a2 (by omega) (by omega)
        have hm := leftT_come (n := L.length) (k := k') (L := L) (T := T) (place := place) (X := X ++ [(pc, fit)]) (pc := x.out) (fit := fit)
        obtain ⟨f1, f2⟩ := ih k' (comeL L T place k' (X ++ [(pc, fit)]) x.out fit) x.arg fit b1 b2 (by omega) (by omega)
        simp only [if_pos h3]
        rw [e1, e2, f1, f2]
        exact ⟨rfl, rfl⟩
      · simp only [if_neg h3]
        by_cases h4 : x.op = 4
        · obtain ⟨a1, a2⟩ := l2 (by omega)
          obtain ⟨e1, e2⟩ := ih k' (X ++ [(pc, fit)]) x.out (fit.set x.arg.toNat place) a1 a2 (by omega) (by omega)
          simp only [if_pos h4]
          rw [e1, e2]
          exact ⟨rfl, rfl⟩
        · simp only [if_neg h4]
          by_cases h5 : x.op = 5 ∧ T x = true
          · obtain ⟨a1, a2⟩ := l2 (by omega)
            obtain ⟨e1, e2⟩ := ih k' (X ++ [(pc, fit)]) x.out fit a1 a2 (by omega) (by omega)
            simp only [if_pos h5]
            rw [e1, e2]
            exact ⟨rfl, rfl⟩
          · simp only [if_neg h5, and_self]
end
end Go.Proofs.YtbhcgjahlfpjoaaDoor
namespace Go.Proofs.YtbhcgjahlfpjoaaDoor

section
variable (L : List MI) (T R : Nat → MI → Bool)
/-- An instruction and those behind it, at a place. -/
def closeL (j : Nat) (X : List Th) (pc : Int) (fit : List Int) : List Th := comeL L (T j) (j : Int) (L.length + 1) X pc fit
/-- What one that was come to at a place puts into the next place's list. -/
def step1 (j : Nat) (X : List Th) (t : Th) : List Th :=
  match L[t.1.toNat]? with
  | none => X
  | some x => if x.op = 2 ∧ R j x = true then closeL L T (j + 1) X x.out t.2 else X
def stepL (j : Nat) (Y X : List Th) : List Th := Y.foldl (step1 L T R j) X
/-- Is it a match? -/
def isM (t : Th) : Bool := match L[t.1.toNat]? with | none => false | some x => x.op == 1
/-- Those ahead of the first match. -/
def pre (X : List Th) : List Th := X.takeWhile fun t => !isM L t
def fst (X : List Th) : Option Th := X.find? (isM L)
/-- The match of a list at a place, the first one first. -/
def pike : Nat → Nat → List Th → Option (List Int)
  | 0, _, _ => none
  | k + 1, j, X => (pike k (j + 1) (stepL L T R j (pre L X) [])).or ((fst L X).map fun t => t.2.set 1 (j : Int))
end

section
variable {L : List MI} {T R : Nat → MI → Bool}
theorem closeL_ext (j : Nat) (X : List Th) (pc : Int) (fit : List Int) : ∃ Z, closeL L T j X pc fit = X ++ Z := comeL_ext _ _ _ _
theorem step1_ext (j : Nat) (X : List Th) (t : Th) : ∃ Z, step1 L T R j X t = X ++ Z := by
  unfold step1
  split
  · exact ⟨[], by simp⟩
  · split
    · exact closeL_ext _ _ _ _
    · exact ⟨[], by simp⟩
theorem stepL_ext (j : Nat) (Y : List Th) : ∀ X, ∃ Z, stepL L T R j Y X = X ++ Z := by
  induction Y with
  | nil => intro X; exact ⟨[], by simp [stepL]⟩
  | cons t Y ih =>
    intro X
    obtain ⟨Z, hZ⟩ := step1_ext (L := L) (T := T) (R := R) j X t
    obtain ⟨Z2, hZ2⟩ := ih (step1 L T R j X t)
    exact ⟨Z ++ Z2, by show stepL L T R j Y (step1 L T R j X t) = _; rw [hZ2, hZ, List.append_assoc]⟩
theorem stepL_app (j : Nat) (Y Z X : List Th) : stepL L T R j (Y ++ Z) X = stepL L T R j Z (stepL L T R j Y X) := by simp [stepL]
theorem pre_app (X Z : List Th) : (fst L X ≠ none → pre L (X ++ Z) = pre L X ∧ fst L (X ++ Z) = fst L X) ∧ (fst L X = none → pre L (X ++ Z) = X ++ pre L Z ∧ pre L X = X ∧ fst L (X ++ Z) = fst L Z) := by
  induction X with
  | nil => exact ⟨fun h => absurd rfl h, fun _ => ⟨rfl, rfl, rfl⟩⟩
  | cons t X ih =>
    unfold pre fst at *
    cases ht : isM L t with
    | true => simp [List.takeWhile, List.find?, ht]
    | false =>
      simp only [List.cons_append, List.takeWhile_cons, List.find?_cons, ht, Bool.not_false, if_true]
      refine ⟨fun h => ?_, fun h => ?_⟩
      · obtain ⟨h1, h2⟩ := ih.1 h
        exact ⟨by rw [h1], h2⟩
      · obtain ⟨h1, h2, h3⟩ := ih.2 h
        exact ⟨by rw [h1], by rw [h2], h3⟩
/-- More behind a list that tells a match does not change it. -/
theorem pike_more (k : Nat) : ∀ (j : Nat) (X Z : List Th) (b : List Int), pike L T R k j X = some b → pike L T R k j (X ++ Z) = some b := by
  induction k with
  | zero => intro _ _ _ _ h; cases h
  | succ k ih =>
    intro j X Z b h
    unfold pike at h ⊢
    by_cases hf : fst L X = none
    · obtain ⟨h1, h2, h3⟩ := (pre_app X Z).2 hf
      rw [hf, Option.map_none, Option.or_none, h2] at h
      rw [h1, stepL_app]
      obtain ⟨Z2, hZ2⟩ := stepL_ext (L := L) (T := T) (R := R) j (pre L Z) (stepL L T R j X [])
      rw [hZ2, ih _ _ _ _ h]
      rfl
    · obtain ⟨h1, h2⟩ := (pre_app X Z).1 hf
      rw [h1, h2]
      exact h
end
end Go.Proofs.YtbhcgjahlfpjoaaDoor
namespace Go.Proofs.YtbhcgjahlfpjoaaDoor

section
variable (L : List MI) (T R : Nat → MI → Bool) (s0 : Int) (f0 : Nat → List Int)
/-- The match of a list into which one more begins at each place, till there is one. -/
def pikeAll : Nat → Nat → List Th → Option (List Int)
  | 0, _, _ => none
  | k + 1, j, X =>
    if fst L (closeL L T j X s0 (f0 j)) = none then pikeAll k (j + 1) (stepL L T R j (closeL L T j X s0 (f0 j)) []) else pike L T R (k + 1) j (closeL L T j X s0 (f0 j))
/-- The first place at which one begins that matches. -/
def firstS : Nat → Nat → Option (List Int)
  | 0, _ => none
  | k + 1, j => (pike L T R (k + 1) j (closeL L T j [] s0 (f0 j))).or (firstS k (j + 1))
end

section
variable {L : List MI} {T R : Nat → MI → Bool} {s0 : Int} {f0 : Nat → List Int}
theorem pike_none_fst {k j : Nat} {X : List Th} (h : fst L X = none) : pike L T R (k + 1) j X = pike L T R k (j + 1) (stepL L T R j X []) := by
  have h2 := (pre_app (L := L) X []).2 h
  rw [pike, h, h2.2.1, Option.map_none, Option.or_none]
theorem pike_dead {k j : Nat} {X : List Th} (h : pike L T R (k + 1) j X = none) : fst L X = none ∧ pike L T R k (j + 1) (stepL L T R j X []) = none := by
  have h1 : fst L X = none := by
    rw [pike, Option.or_eq_none_iff] at h
    simpa using h.2
  exact ⟨h1, by rw [← pike_none_fst h1]; exact h⟩
theorem pikeAll_some (k : Nat) : ∀ (j : Nat) (X : List Th) (b : List Int), pike L T R k j X = some b → pikeAll L T R s0 f0 k j X = some b := by
  induction k with
  | zero => intro _ _ _ h; cases h
  | succ k ih =>
    intro j X b h
    obtain ⟨Z, hZ⟩ := closeL_ext (L := L) (T := T) j X s0 (f0 j)
    have h1 := pike_more (k + 1) j X Z b h
    unfold pikeAll
    rw [hZ]
    by_cases hf : fst L (X ++ Z) = none
    · rw [if_pos hf]
      rw [pike_none_fst hf] at h1
      exact ih _ _ _ h1
    · rw [if_neg hf]; exact h1

/-- Without those that were come to before. -/
def flt (V Y : List Th) : List Th := Y.filter fun t => !inT V t.1
/-- Those to which instructions of a list lead at its place are in it. -/
def Sat (L : List MI) (T : MI → Bool) (X : List Th) (t : Th) : Prop :=
  ∀ x, L[t.1.toNat]? = some x → (x.op = 3 → inT X x.out = true ∧ inT X x.arg = true) ∧ (x.op = 4 → inT X x.out = true) ∧ (x.op = 5 ∧ T x = true → inT X x.out = true)
def Closed (L : List MI) (T : MI → Bool) (X : List Th) : Prop := ∀ t ∈ X, Sat L T X t
theorem Sat.mono {Tj : MI → Bool} {X : List Th} {t : Th} (h : Sat L Tj X t) (Z : List Th) : Sat L Tj (X ++ Z) t := fun x hx => by
  obtain ⟨h1, h2, h3⟩ := h x hx
  simp only [inT_app, Bool.or_eq_true]
  exact ⟨fun e => ⟨.inl (h1 e).1, .inl (h1 e).2⟩, fun e => .inl (h2 e), fun e => .inl (h3 e)⟩
/-- What is come to is closed. -/
theorem comeL_sat (hL : Leads3 L) {Tj : MI → Bool} {place : Int} (k : Nat) : ∀ (X : List Th) (pc : Int) (fit : List Int), 0 ≤ pc → pc < (L.length : Int) → leftT L.length X < k →
    inT (comeL L Tj place k X pc fit) pc = true ∧ ∀ t ∈ comeL L Tj place k X pc fit, t ∈ X ∨ Sat L Tj (comeL L Tj place k X pc fit) t := by
  induction k with
  | zero => intro _ _ _ _ _ h; omega
  | succ k ih =>
    intro X pc fit h0 hn hk
    by_cases hin : inT X pc = true
    · simp only [comeL, if_pos hin]
      exact ⟨hin, fun t ht => .inl ht⟩
    · have hin' : inT X pc = false := by simpa using hin
      have hx : L[pc.toNat]? = some L[pc.toNat] := List.getElem?_eq_getElem (by omega)
      generalize L[pc.toNat] = x at hx
      obtain ⟨l3, l2⟩ := hL x (List.mem_of_getElem? hx)
      have hl := leftT_add (n := L.length) fit h0 hn hin'
      have hself : inT (X ++ [(pc, fit)]) pc = true := by rw [inT_app]; simp [inT]
      simp only [comeL, if_neg hin, hx]
      have satx : ∀ Y : List Th, (x.op = 3 → inT Y x.out = true ∧ inT Y x.arg = true) → (x.op = 4 → inT Y x.out = true) → (x.op = 5 ∧ Tj x = true → inT Y x.out = true) → Sat L Tj Y (pc, fit) := fun Y a b c y hy => by
        rw [hx] at hy; cases hy; exact ⟨a, b, c⟩
      have one : ∀ fit', (x.op = 4 ∨ x.op = 5) → inT (comeL L Tj place k (X ++ [(pc, fit)]) x.out fit') pc = true ∧ ∀ t ∈ comeL L Tj place k (X ++ [(pc, fit)]) x.out fit', t ∈ X ∨ Sat L Tj (comeL L Tj place k (X ++ [(pc, fit)]) x.out fit') t := fun fit' ho => by
        obtain ⟨a1, a2⟩ := l2 (by omega)
        obtain ⟨g1, g2⟩ := ih (X ++ [(pc, fit)]) x.out fit' a1 a2 (by omega)
        obtain ⟨Z, hZ⟩ := comeL_ext (L := L) (T := Tj) (place := place) k (X ++ [(pc, fit)]) x.out fit'
        refine ⟨by rw [hZ, inT_app, hself]; rfl, fun t ht => ?_⟩
        rcases g2 t ht with h | h
        · rcases List.mem_append.1 h with h | h
          · exact .inl h
          · obtain rfl := List.mem_singleton.1 h
            exact .inr (satx _ (fun e => by omega) (fun _ => g1) (fun _ => g1))
        · exact .inr h
      by_cases h3 : x.op = 3
      · simp only [if_pos h3]
        obtain ⟨a1, a2⟩ := l2 (by omega)
        obtain ⟨b1, b2⟩ := l3 h3
        obtain ⟨g1, g2⟩ := ih (X ++ [(pc, fit)]) x.out fit a1 a2 (by omega)
        have hm := leftT_come (n := L.length) (k := k) (L := L) (T := Tj) (place := place) (X := X ++ [(pc, fit)]) (pc := x.out) (fit := fit)
        obtain ⟨Z1, hZ1⟩ := comeL_ext (L := L) (T := Tj) (place := place) k (X ++ [(pc, fit)]) x.out fit
        obtain ⟨k1, k2⟩ := ih (comeL L Tj place k (X ++ [(pc, fit)]) x.out fit) x.arg fit b1 b2 (by omega)
        obtain ⟨Z2, hZ2⟩ := comeL_ext (L := L) (T := Tj) (place := place) k (comeL L Tj place k (X ++ [(pc, fit)]) x.out fit) x.arg fit
        have ho : inT (comeL L Tj place k (comeL L Tj place k (X ++ [(pc, fit)]) x.out fit) x.arg fit) x.out = true := by rw [hZ2, inT_app, g1]; rfl
        refine ⟨by rw [hZ2, inT_app, hZ1, inT_app, hself]; rfl, fun t ht => ?_⟩
        rcases k2 t ht with h | h
        · rcases g2 t h with h | h
          · rcases List.mem_append.1 h with h | h
            · exact .inl h
            · obtain rfl := List.mem_singleton.1 h
              exact .inr (satx _ (fun _ => ⟨ho, k1⟩) (fun e => by omega) (fun e => by omega))
          · exact .inr (by rw [hZ2]; exact h.mono _)
        · exact .inr h
      · simp only [if_neg h3]
        by_cases h4 : x.op = 4
        · simp only [if_pos h4]; exact one _ (.inl h4)
        · simp only [if_neg h4]
          by_cases h5 : x.op = 5 ∧ Tj x = true
          · simp only [if_pos h5]; exact one _ (.inr h5.1)
          · simp only [if_neg h5]
            refine ⟨hself, fun t ht => ?_⟩
            rcases List.mem_append.1 ht with h | h
            · exact .inl h
            · obtain rfl := List.mem_singleton.1 h
              exact .inr (satx _ (fun e => absurd e h3) (fun e => absurd e h4) (fun e => absurd e h5))
theorem closeL_closed (hL : Leads3 L) {j : Nat} {X : List Th} {pc : Int} (fit : List Int) (h0 : 0 ≤ pc) (hn : pc < (L.length : Int)) (hX : Closed L (T j) X) : Closed L (T j) (closeL L T j X pc fit) ∧ inT (closeL L T j X pc fit) pc = true := by
  have hlt : leftT L.length X < L.length + 1 := Nat.lt_succ_of_le (by unfold leftT; exact Nat.le_trans List.countP_le_length (by simp))
  obtain ⟨h1, h2⟩ := comeL_sat hL (Tj := T j) (place := (j : Int)) (L.length + 1) X pc fit h0 hn hlt
  obtain ⟨Z, hZ⟩ := closeL_ext (L := L) (T := T) j X pc fit
  refine ⟨fun t ht => ?_, h1⟩
  rcases h2 t ht with h | h
  · rw [hZ]; exact (hX t h).mono Z
  · exact h
/-- From what is closed one comes to nothing outside it. -/
theorem comeL_in (_hL : Leads3 L) {Tj : MI → Bool} {place : Int} {V : List Th} (hV : Closed L Tj V) (k : Nat) : ∀ (Y : List Th) (pc : Int) (fit : List Int), inT V pc = true → flt V (comeL L Tj place k Y pc fit) = flt V Y := by
  induction k with
  | zero => intro _ _ _ _; rfl
  | succ k ih =>
    intro Y pc fit hpc
    have hadd : flt V (Y ++ [(pc, fit)]) = flt V Y := by simp [flt, List.filter_append, hpc]
    unfold comeL
    split
    · rfl
    · split
      · exact hadd
      · rename_i x hx
        obtain ⟨t, ht, rfl⟩ := inT_iff.1 hpc
        obtain ⟨g1, g2, g3⟩ := hV t ht x hx
        split
        · rename_i h3
          rw [ih _ _ _ (g1 h3).2, ih _ _ _ (g1 h3).1, hadd]
        · split
          · rename_i h4
            rw [ih _ _ _ (g2 h4), hadd]
          · split
            · rename_i h5
              rw [ih _ _ _ (g3 h5), hadd]
            · exact hadd
theorem comeL_flt (hL : Leads3 L) {Tj : MI → Bool} {place : Int} {V : List Th} (hV : Closed L Tj V) (k : Nat) : ∀ (Y : List Th) (pc : Int) (fit : List Int), comeL L Tj place k (V ++ flt V Y) pc fit = V ++ flt V (comeL L Tj place k Y pc fit) := by
  induction k with
  | zero => intro _ _ _; rfl
  | succ k ih =>
    intro Y pc fit
    by_cases hpc : inT V pc = true
    · rw [comeL_in hL hV (k + 1) Y pc fit hpc]
      unfold comeL
      rw [if_pos (by rw [inT_app, hpc]; rfl)]
    · have hpc' : inT V pc = false := by simpa using hpc
      have hin : inT (V ++ flt V Y) pc = inT Y pc := by
        rw [inT_app, hpc', Bool.false_or, Bool.eq_iff_iff, inT_iff, inT_iff]
        constructor
        · rintro ⟨t, ht, rfl⟩; exact ⟨t, (List.mem_filter.1 ht).1, rfl⟩
        · rintro ⟨t, ht, rfl⟩; exact ⟨t, List.mem_filter.2 ⟨ht, by rw [hpc']; rfl⟩, rfl⟩
      have hadd : V ++ flt V Y ++ [(pc, fit)] = V ++ flt V (Y ++ [(pc, fit)]) := by simp [flt, List.filter_append, hpc']
      simp only [comeL, hin, hadd, ih]
      by_cases h1 : inT Y pc = true
      · simp only [if_pos h1]
      · simp only [if_neg h1]
        cases L[pc.toNat]? with
        | none => rfl
        | some x =>
          simp only
          split
          · rfl
          · split
            · rfl
            · split <;> rfl
end
end Go.Proofs.YtbhcgjahlfpjoaaDoor
namespace Go.Proofs.YtbhcgjahlfpjoaaDoor

section
variable {L : List MI} {T R : Nat → MI → Bool} {s0 : Int} {f0 : Nat → List Int}
theorem step1_closed (hL : Leads3 L) {j : Nat} {X : List Th} (t : Th) (hX : Closed L (T (j + 1)) X) : Closed L (T (j + 1)) (step1 L T R j X t) := by
  unfold step1
  split
  · exact hX
  · rename_i x hx
    split
    · rename_i h
      obtain ⟨a1, a2⟩ := (hL x (List.mem_of_getElem? hx)).2 (.inl h.1)
      exact (closeL_closed hL t.2 a1 a2 hX).1
    · exact hX
theorem stepL_closed (hL : Leads3 L) {j : Nat} (Y : List Th) : ∀ X, Closed L (T (j + 1)) X → Closed L (T (j + 1)) (stepL L T R j Y X) := by
  induction Y with
  | nil => intro X hX; exact hX
  | cons t Y ih => intro X hX; exact ih _ (step1_closed hL t hX)
theorem stepL_in (hL : Leads3 L) {j : Nat} (Y : List Th) : ∀ X, ∀ t ∈ Y, ∀ x, L[t.1.toNat]? = some x → x.op = 2 ∧ R j x = true → inT (stepL L T R j Y X) x.out = true := by
  induction Y with
  | nil => intro X t ht; cases ht
  | cons s Y ih =>
    intro X t ht x hx hr
    rcases List.mem_cons.1 ht with rfl | ht
    · obtain ⟨Z, hZ⟩ := stepL_ext (L := L) (T := T) (R := R) j Y (step1 L T R j X t)
      have h1 : inT (step1 L T R j X t) x.out = true := by
        obtain ⟨a1, a2⟩ := (hL x (List.mem_of_getElem? hx)).2 (.inl hr.1)
        unfold step1
        rw [hx]
        simp only [if_pos hr]
        have hlt : leftT L.length X < L.length + 1 := Nat.lt_succ_of_le (by unfold leftT; exact Nat.le_trans List.countP_le_length (by simp))
        exact (comeL_sat hL (Tj := T (j + 1)) (place := ((j + 1 : Nat) : Int)) (L.length + 1) X x.out t.2 a1 a2 hlt).1
      show inT (stepL L T R j Y (step1 L T R j X t)) x.out = true
      rw [hZ, inT_app, h1]; rfl
    · exact ih _ t ht x hx hr
/-- The next list without those that the closed list's next one has. -/
theorem stepL_flt (hL : Leads3 L) {j : Nat} {V W : List Th} (hW : Closed L (T (j + 1)) W) (hVW : ∀ t ∈ V, ∀ x, L[t.1.toNat]? = some x → x.op = 2 ∧ R j x = true → inT W x.out = true) (Y : List Th) :
    ∀ Z, stepL L T R j (flt V Y) (W ++ flt W Z) = W ++ flt W (stepL L T R j Y Z) := by
  induction Y with
  | nil => intro Z; rfl
  | cons t Y ih =>
    intro Z
    show stepL L T R j (flt V (t :: Y)) (W ++ flt W Z) = W ++ flt W (stepL L T R j Y (step1 L T R j Z t))
    by_cases ht : inT V t.1 = true
    · have h1 : flt V (t :: Y) = flt V Y := by simp [flt, ht]
      have h2 : flt W (step1 L T R j Z t) = flt W Z := by
        obtain ⟨v, hv, hv1⟩ := inT_iff.1 ht
        unfold step1
        split
        · rfl
        · rename_i x hx
          split
          · rename_i hr
            exact comeL_in hL hW _ _ _ _ (hVW v hv x (by rw [hv1]; exact hx) hr)
          · rfl
      rw [h1, ← h2]
      exact ih _
    · have h1 : flt V (t :: Y) = t :: flt V Y := by simp [flt, ht]
      have h2 : step1 L T R j (W ++ flt W Z) t = W ++ flt W (step1 L T R j Z t) := by
        unfold step1
        split
        · rfl
        · split
          · exact comeL_flt hL hW _ _ _ _
          · rfl
      rw [h1]
      show stepL L T R j (flt V Y) (step1 L T R j (W ++ flt W Z) t) = _
      rw [h2]
      exact ih _
theorem flt_pre {V : List Th} (hV : fst L V = none) (Y : List Th) : fst L (flt V Y) = fst L Y ∧ pre L (flt V Y) = flt V (pre L Y) := by
  have hno : ∀ v ∈ V, isM L v = false := fun v hv => by
    have := List.find?_eq_none.1 hV v hv
    simpa using this
  induction Y with
  | nil => exact ⟨rfl, rfl⟩
  | cons t Y ih =>
    unfold fst pre at *
    by_cases ht : inT V t.1 = true
    · obtain ⟨v, hv, hv1⟩ := inT_iff.1 ht
      have hm : isM L t = false := by have := hno v hv; unfold isM at this ⊢; rw [hv1] at this; exact this
      have h1 : flt V (t :: Y) = flt V Y := by simp [flt, ht]
      have h2 : flt V (t :: (List.takeWhile (fun t => !isM L t) Y)) = flt V (List.takeWhile (fun t => !isM L t) Y) := by simp [flt, ht]
      rw [h1, ih.1, ih.2, List.find?_cons, hm, List.takeWhile_cons, hm]
      exact ⟨rfl, h2.symm⟩
    · have h1 : ∀ Y', flt V (t :: Y') = t :: flt V Y' := fun Y' => by simp [flt, ht]
      rw [h1]
      cases hm : isM L t with
      | true => simp [hm, flt]
      | false =>
        simp only [List.find?_cons, List.takeWhile_cons, hm, Bool.not_false, if_true]
        exact ⟨ih.1, by rw [h1, ih.2]⟩
theorem pike_flt (hL : Leads3 L) (k : Nat) : ∀ (j : Nat) (V Y : List Th), Closed L (T j) V → pike L T R k j V = none → pike L T R k j (V ++ flt V Y) = pike L T R k j Y := by
  induction k with
  | zero => intro _ _ _ _ _; rfl
  | succ k ih =>
    intro j V Y hV hd
    obtain ⟨h1, h2⟩ := pike_dead hd
    obtain ⟨g1, _, g3⟩ := (pre_app (L := L) V (flt V Y)).2 h1
    obtain ⟨f1, f2⟩ := flt_pre h1 Y
    have hW := stepL_closed (R := R) hL V [] (j := j) (T := T) (fun _ h => by cases h)
    have hs := stepL_flt hL hW (stepL_in (T := T) hL V []) (pre L Y) []
    simp only [flt, List.filter_nil, List.append_nil] at hs
    rw [pike, pike, g1, g3, f1, f2, stepL_app]
    rw [show stepL L T R j (flt V (pre L Y)) (stepL L T R j V []) = stepL L T R j V [] ++ flt (stepL L T R j V []) (stepL L T R j (pre L Y) []) from hs]
    rw [ih (j + 1) _ _ hW h2]
theorem closeL_flt (hL : Leads3 L) {j : Nat} {V : List Th} (hV : Closed L (T j) V) (pc : Int) (fit : List Int) : closeL L T j V pc fit = V ++ flt V (closeL L T j [] pc fit) := by
  have := comeL_flt hL hV (place := (j : Int)) (L.length + 1) [] pc fit
  rw [show V ++ flt V [] = V by simp [flt]] at this
  exact this
/-- Begun at each place: the first place that has a match, walked anew. -/
theorem pikeAll_first (hL : Leads3 L) (_h0 : 0 ≤ s0) (_hn : s0 < (L.length : Int)) (k : Nat) : ∀ (j : Nat) (X : List Th), Closed L (T j) X → pike L T R k j X = none → pikeAll L T R s0 f0 k j X = firstS L T R s0 f0 k j := by
  induction k with
  | zero => intro _ _ _ _; rfl
  | succ k ih =>
    intro j X hX hd
    have he := pike_flt hL (k + 1) j X (closeL L T j [] s0 (f0 j)) hX hd
    rw [← closeL_flt hL hX] at he
    unfold pikeAll firstS
    rw [← he]
    cases hp : pike L T R (k + 1) j (closeL L T j X s0 (f0 j)) with
    | some b =>
      rw [Option.some_or]
      by_cases hf : fst L (closeL L T j X s0 (f0 j)) = none
      · rw [if_pos hf]
        rw [pike_none_fst hf] at hp
        exact pikeAll_some k _ _ _ hp
      · rw [if_neg hf]
    | none =>
      rw [Option.none_or]
      obtain ⟨h1, h2⟩ := pike_dead hp
      rw [if_pos h1]
      exact ih _ _ (stepL_closed hL _ _ (fun _ h => by cases h)) h2
end
end Go.Proofs.YtbhcgjahlfpjoaaDoor
namespace Go.Proofs.YtbhcgjahlfpjoaaDoor

/-- What has been come to, place by place. -/
abbrev Lev := Nat → List Th
def Lev.add (V : Lev) (j : Nat) (t : Th) : Lev := fun i => if i = j then V j ++ [t] else V i
theorem Lev.add_at (V : Lev) (j : Nat) (t : Th) : V.add j t j = V j ++ [t] := by simp [Lev.add]
theorem Lev.add_ne (V : Lev) {i j : Nat} (t : Th) (h : i ≠ j) : V.add j t i = V i := by simp [Lev.add, h]
/-- Is nothing more come to? -/
def stopD (lng : Bool) (N : Nat) (V : Lev) (b : Option (List Int)) (pc : Int) (j : Nat) : Prop := (b ≠ none ∧ lng = false) ∨ N < j ∨ inT (V j) pc = true
/-- The better match. -/
def better (b : Option (List Int)) (fit : List Int) (j : Nat) : Option (List Int) :=
  match b with
  | none => some (fit.set 1 (j : Int))
  | some c => if c[1]?.getD 0 < (j : Int) then some (fit.set 1 (j : Int)) else some c
/-- The walk: what was come to, the best match; ahead and behind. -/
inductive Dfs (L : List MI) (T R : Nat → MI → Bool) (lng : Bool) (N : Nat) : Lev → Option (List Int) → Int → Nat → List Int → Lev → Option (List Int) → Prop
  | stop {V : Lev} {b : Option (List Int)} {pc : Int} {j : Nat} {fit : List Int} : stopD lng N V b pc j → Dfs L T R lng N V b pc j fit V b
  | leaf {V : Lev} {b : Option (List Int)} {pc : Int} {j : Nat} {fit : List Int} (x : MI) : ¬ stopD lng N V b pc j → L[pc.toNat]? = some x → (x.op = 6 ∨ (x.op = 2 ∧ R j x = false) ∨ (x.op = 5 ∧ T j x = false)) → Dfs L T R lng N V b pc j fit (V.add j (pc, fit)) b
  | mt {V : Lev} {b : Option (List Int)} {pc : Int} {j : Nat} {fit : List Int} (x : MI) : ¬ stopD lng N V b pc j → L[pc.toNat]? = some x → x.op = 1 → Dfs L T R lng N V b pc j fit (V.add j (pc, fit)) (better b fit j)
  | read {V V' : Lev} {b b' : Option (List Int)} {pc : Int} {j : Nat} {fit : List Int} (x : MI) : ¬ stopD lng N V b pc j → L[pc.toNat]? = some x → x.op = 2 → R j x = true → Dfs L T R lng N (V.add j (pc, fit)) b x.out (j + 1) fit V' b' → Dfs L T R lng N V b pc j fit V' b'
  | one {V V' : Lev} {b b' : Option (List Int)} {pc : Int} {j : Nat} {fit : List Int} (x : MI) : ¬ stopD lng N V b pc j → L[pc.toNat]? = some x → x.op = 5 → T j x = true → Dfs L T R lng N (V.add j (pc, fit)) b x.out j fit V' b' → Dfs L T R lng N V b pc j fit V' b'
  | cap {V V' : Lev} {b b' : Option (List Int)} {pc : Int} {j : Nat} {fit : List Int} (x : MI) : ¬ stopD lng N V b pc j → L[pc.toNat]? = some x → x.op = 4 → Dfs L T R lng N (V.add j (pc, fit)) b x.out j (fit.set x.arg.toNat (j : Int)) V' b' → Dfs L T R lng N V b pc j fit V' b'
  | two {V V1 V' : Lev} {b b1 b' : Option (List Int)} {pc : Int} {j : Nat} {fit : List Int} (x : MI) : ¬ stopD lng N V b pc j → L[pc.toNat]? = some x → x.op = 3 → Dfs L T R lng N (V.add j (pc, fit)) b x.out j fit V1 b1 → Dfs L T R lng N V1 b1 x.arg j fit V' b' → Dfs L T R lng N V b pc j fit V' b'

section
variable {L : List MI} {T R : Nat → MI → Bool}
theorem closeL_eq (hL : Leads3 L) {j : Nat} {X : List Th} {pc : Int} (fit : List Int) (h0 : 0 ≤ pc) (hn : pc < (L.length : Int)) (hin : inT X pc = false) {x : MI} (hx : L[pc.toNat]? = some x) :
    closeL L T j X pc fit = if x.op = 3 then closeL L T j (closeL L T j (X ++ [(pc, fit)]) x.out fit) x.arg fit
      else if x.op = 4 then closeL L T j (X ++ [(pc, fit)]) x.out (fit.set x.arg.toNat (j : Int))
      else if x.op = 5 ∧ T j x = true then closeL L T j (X ++ [(pc, fit)]) x.out fit
      else X ++ [(pc, fit)] := by
  obtain ⟨l3, l2⟩ := hL x (List.mem_of_getElem? hx)
  have hl := leftT_add (n := L.length) fit h0 hn hin
  have hle : leftT L.length X ≤ L.length := by unfold leftT; exact Nat.le_trans List.countP_le_length (by simp)
  have fu : ∀ Y pc' fit', 0 ≤ pc' → pc' < (L.length : Int) → leftT L.length Y < L.length → comeL L (T j) (j : Int) L.length Y pc' fit' = closeL L T j Y pc' fit' := fun Y pc' fit' a b c => (come_fuel hL L.length (L.length + 1) Y pc' fit' a b c (by omega)).1
  have hin' : ¬ inT X pc = true := by rw [hin]; simp
  rw [closeL, comeL, if_neg hin', hx]
  simp only
  by_cases h3 : x.op = 3
  · rw [if_pos h3, if_pos h3]
    obtain ⟨a1, a2⟩ := l2 (by omega)
    obtain ⟨b1, b2⟩ := l3 h3
    rw [fu _ _ _ a1 a2 (by omega)]
    obtain ⟨Z, hZ⟩ := closeL_ext (L := L) (T := T) j (X ++ [(pc, fit)]) x.out fit
    have := leftT_mono (n := L.length) (X ++ [(pc, fit)]) Z
    rw [← hZ] at this
    rw [fu _ _ _ b1 b2 (by omega)]
  · rw [if_neg h3, if_neg h3]
    by_cases h4 : x.op = 4
    · rw [if_pos h4, if_pos h4]
      obtain ⟨a1, a2⟩ := l2 (by omega)
      rw [fu _ _ _ a1 a2 (by omega)]
    · rw [if_neg h4, if_neg h4]
      by_cases h5 : x.op = 5 ∧ T j x = true
      · rw [if_pos h5, if_pos h5]
        obtain ⟨a1, a2⟩ := l2 (by omega)
        rw [fu _ _ _ a1 a2 (by omega)]
      · rw [if_neg h5, if_neg h5]
theorem closeL_old {j : Nat} {X : List Th} {pc : Int} (fit : List Int) (hin : inT X pc = true) : closeL L T j X pc fit = X := by rw [closeL, comeL, if_pos hin]
theorem step1_no {j : Nat} {t : Th} {x : MI} (hx : L[t.1.toNat]? = some x) (h : ¬ (x.op = 2 ∧ R j x = true)) (Y : List Th) : step1 L T R j Y t = Y := by unfold step1; rw [hx]; simp only [if_neg h]
theorem step1_yes {j : Nat} {t : Th} {x : MI} (hx : L[t.1.toNat]? = some x) (h : x.op = 2 ∧ R j x = true) (Y : List Th) : step1 L T R j Y t = closeL L T (j + 1) Y x.out t.2 := by unfold step1; rw [hx]; simp only [if_pos h]
theorem isM_op {t : Th} {x : MI} (hx : L[t.1.toNat]? = some x) : isM L t = (x.op == 1) := by unfold isM; rw [hx]
theorem fst_snoc {X : List Th} {t : Th} (hX : fst L X = none) (ht : isM L t = false) : fst L (X ++ [t]) = none := by
  rw [((pre_app (L := L) X [t]).2 hX).2.2]; unfold fst; simp [ht]
/-- The levels of a walk: each is the next list of the one ahead. -/
def LevOK (L : List MI) (T R : Nat → MI → Bool) (j : Nat) (V : Lev) : Prop := ∀ i, j ≤ i → V (i + 1) = stepL L T R i (V i) []
theorem LevOK.add {j : Nat} {V : Lev} (h : LevOK L T R j V) {t : Th} (hno : ∀ Y, step1 L T R j Y t = Y) : LevOK L T R j (V.add j t) := by
  intro i hi
  rw [V.add_ne t (show i + 1 ≠ j by omega), h i hi]
  by_cases e : i = j
  · subst e
    rw [V.add_at, stepL_app]
    exact (hno _).symm
  · rw [V.add_ne t e]
theorem pike_snoc {k j : Nat} {X : List Th} {t : Th} (hd : pike L T R (k + 1) j X = none) (ht : isM L t = false) (hno : ∀ Y, step1 L T R j Y t = Y) : pike L T R (k + 1) j (X ++ [t]) = none := by
  obtain ⟨h1, h2⟩ := pike_dead hd
  rw [pike_none_fst (fst_snoc h1 ht), stepL_app]
  rw [show stepL L T R j [t] (stepL L T R j X []) = stepL L T R j X [] from hno _]
  exact h2
/-- The walk that stops at the first match tells what the lists tell. -/
theorem dfs_pike (hL : Leads3 L) {N : Nat} (hR : ∀ x, R N x = false) {V V' : Lev} {b b' : Option (List Int)} {pc : Int} {j : Nat} {fit : List Int} (h : Dfs L T R false N V b pc j fit V' b') :
    b = none → 0 ≤ pc → pc < (L.length : Int) → j ≤ N → LevOK L T R j V → pike L T R (N - j + 1) j (V j) = none →
      pike L T R (N - j + 1) j (closeL L T j (V j) pc fit) = b' ∧ (b' = none → (∀ i, i < j → V' i = V i) ∧ V' j = closeL L T j (V j) pc fit ∧ LevOK L T R j V') := by
  have go : ∀ {V : Lev} {pc : Int} {j : Nat}, ¬ stopD false N V none pc j → inT (V j) pc = false := fun {V pc j} h => by
    cases hi : inT (V j) pc with
    | false => rfl
    | true => exact absurd (.inr (.inr hi)) h
  induction h with
  | @stop V b pc j fit hs =>
    intro hb h0 hn hj hl hd
    subst hb
    have hin : inT (V j) pc = true := by
      rcases hs with h | h | h
      · exact absurd rfl h.1
      · omega
      · exact h
    rw [closeL_old _ hin]
    exact ⟨hd, fun _ => ⟨fun _ _ => rfl, rfl, hl⟩⟩
  | @leaf V b pc j fit x hs hx ho =>
    intro hb h0 hn hj hl hd
    subst hb
    have hno : ∀ Y, step1 L T R j Y (pc, fit) = Y := step1_no hx (by rintro ⟨h1, h2⟩; rcases ho with h | h | h; omega; simp [h.2] at h2; omega)
    have hm : isM L (pc, fit) = false := by rw [isM_op (t := (pc, fit)) hx]; rw [beq_eq_false_iff_ne]; rcases ho with h | h | h <;> omega
    have hc : closeL L T j (V j) pc fit = V j ++ [(pc, fit)] := by
      rw [closeL_eq hL fit h0 hn (go hs) hx, if_neg (by rcases ho with h | h | h <;> omega), if_neg (by rcases ho with h | h | h <;> omega), if_neg (by rintro ⟨h1, h2⟩; rcases ho with h | h | h; omega; omega; simp [h.2] at h2)]
    rw [hc]
    exact ⟨pike_snoc hd hm hno, fun _ => ⟨fun i hi => V.add_ne _ (by omega), V.add_at _ _, hl.add hno⟩⟩
  | @mt V b pc j fit x hs hx ho =>
    intro hb h0 hn hj hl hd
    subst hb
    have hm : isM L (pc, fit) = true := by rw [isM_op (t := (pc, fit)) hx, ho]; rfl
    have hc : closeL L T j (V j) pc fit = V j ++ [(pc, fit)] := by
      rw [closeL_eq hL fit h0 hn (go hs) hx, if_neg (by omega), if_neg (by omega), if_neg (by omega)]
    obtain ⟨h1, h2⟩ := pike_dead hd
    obtain ⟨g1, _, g3⟩ := (pre_app (L := L) (V j) [(pc, fit)]).2 h1
    refine ⟨?_, fun h => by cases h⟩
    rw [hc, pike, g1, g3]
    have e1 : pre L [(pc, fit)] = [] := by unfold pre; simp [hm]
    have e2 : fst L [(pc, fit)] = some (pc, fit) := by unfold fst; simp [hm]
    rw [e1, e2, List.append_nil, h2]
    rfl
  | @read V V' b b' pc j fit x hs hx ho hr _ ih =>
    intro hb h0 hn hj hl hd
    subst hb
    obtain ⟨a1, a2⟩ := (hL x (List.mem_of_getElem? hx)).2 (.inl ho)
    have hjN : j < N := by
      rcases Nat.lt_or_ge j N with h | h
      · exact h
      · have : j = N := by omega
        subst this
        rw [hR x] at hr; cases hr
    have hm : isM L (pc, fit) = false := by rw [isM_op (t := (pc, fit)) hx, ho]; rfl
    have hc : closeL L T j (V j) pc fit = V j ++ [(pc, fit)] := by
      rw [closeL_eq hL fit h0 hn (go hs) hx, if_neg (by omega), if_neg (by omega), if_neg (by omega)]
    obtain ⟨h1, h2⟩ := pike_dead hd
    have hV1 : V.add j (pc, fit) (j + 1) = V (j + 1) := V.add_ne _ (by omega)
    have hlv : LevOK L T R (j + 1) (V.add j (pc, fit)) := fun i hi => by
      rw [V.add_ne _ (by omega), V.add_ne _ (by omega)]; exact hl i (by omega)
    rw [show N - j = N - (j + 1) + 1 by omega] at h2
    obtain ⟨g1, g2⟩ := ih rfl a1 a2 (by omega) hlv (by rw [hV1, hl j (Nat.le_refl _)]; exact h2)
    rw [hV1] at g1 g2
    have hst : stepL L T R j (V j ++ [(pc, fit)]) [] = closeL L T (j + 1) (V (j + 1)) x.out fit := by
      rw [stepL_app, hl j (Nat.le_refl _)]
      exact step1_yes (t := (pc, fit)) hx ⟨ho, hr⟩ _
    refine ⟨?_, fun hb => ?_⟩
    · rw [hc, pike_none_fst (fst_snoc h1 hm), hst, show N - j = N - (j + 1) + 1 by omega]
      exact g1
    · obtain ⟨k1, k2, k3⟩ := g2 hb
      have hVj : V' j = V j ++ [(pc, fit)] := by rw [k1 j (by omega), V.add_at]
      refine ⟨fun i hi => by rw [k1 i (by omega), V.add_ne _ (by omega)], by rw [hVj, hc], fun i hi => ?_⟩
      by_cases e : i = j
      · subst e; rw [k2, hVj, hst]
      · exact k3 i (by omega)
  | @one V V' b b' pc j fit x hs hx ho ht _ ih =>
    intro hb h0 hn hj hl hd
    subst hb
    obtain ⟨a1, a2⟩ := (hL x (List.mem_of_getElem? hx)).2 (by omega)
    have hno : ∀ Y, step1 L T R j Y (pc, fit) = Y := step1_no hx (by rintro ⟨h1, h2⟩; omega)
    have hm : isM L (pc, fit) = false := by rw [isM_op (t := (pc, fit)) hx, ho]; rfl
    have hc : closeL L T j (V j) pc fit = closeL L T j (V j ++ [(pc, fit)]) x.out fit := by
      rw [closeL_eq hL fit h0 hn (go hs) hx, if_neg (by omega), if_neg (by omega), if_pos ⟨ho, ht⟩]
    obtain ⟨g1, g2⟩ := ih rfl a1 a2 hj (hl.add hno) (by rw [V.add_at]; exact pike_snoc hd hm hno)
    rw [V.add_at] at g1 g2
    rw [hc]
    refine ⟨g1, fun hb => ?_⟩
    obtain ⟨k1, k2, k3⟩ := g2 hb
    exact ⟨fun i hi => by rw [k1 i hi, V.add_ne _ (by omega)], k2, k3⟩
  | @cap V V' b b' pc j fit x hs hx ho _ ih =>
    intro hb h0 hn hj hl hd
    subst hb
    obtain ⟨a1, a2⟩ := (hL x (List.mem_of_getElem? hx)).2 (by omega)
    have hno : ∀ Y, step1 L T R j Y (pc, fit) = Y := step1_no hx (by rintro ⟨h1, h2⟩; omega)
    have hm : isM L (pc, fit) = false := by rw [isM_op (t := (pc, fit)) hx, ho]; rfl
    have hc : closeL L T j (V j) pc fit = closeL L T j (V j ++ [(pc, fit)]) x.out (fit.set x.arg.toNat (j : Int)) := by
      rw [closeL_eq hL fit h0 hn (go hs) hx, if_neg (by omega), if_pos ho]
    obtain ⟨g1, g2⟩ := ih rfl a1 a2 hj (hl.add hno) (by rw [V.add_at]; exact pike_snoc hd hm hno)
    rw [V.add_at] at g1 g2
    rw [hc]
    refine ⟨g1, fun hb => ?_⟩
    obtain ⟨k1, k2, k3⟩ := g2 hb
    exact ⟨fun i hi => by rw [k1 i hi, V.add_ne _ (by omega)], k2, k3⟩
  | @two V V1 V' b b1 b' pc j fit x hs hx ho _ h2 ih1 ih2 =>
    intro hb h0 hn hj hl hd
    subst hb
    obtain ⟨a1, a2⟩ := (hL x (List.mem_of_getElem? hx)).2 (by omega)
    obtain ⟨b3, b4⟩ := (hL x (List.mem_of_getElem? hx)).1 ho
    have hno : ∀ Y, step1 L T R j Y (pc, fit) = Y := step1_no hx (by rintro ⟨h1, h2⟩; omega)
    have hm : isM L (pc, fit) = false := by rw [isM_op (t := (pc, fit)) hx, ho]; rfl
    have hc : closeL L T j (V j) pc fit = closeL L T j (closeL L T j (V j ++ [(pc, fit)]) x.out fit) x.arg fit := by
      rw [closeL_eq hL fit h0 hn (go hs) hx, if_pos ho]
    obtain ⟨g1, g2⟩ := ih1 rfl a1 a2 hj (hl.add hno) (by rw [V.add_at]; exact pike_snoc hd hm hno)
    rw [V.add_at] at g1 g2
    rw [hc]
    cases b1 with
    | some c =>
      obtain ⟨Z, hZ⟩ := closeL_ext (L := L) (T := T) j (closeL L T j (V j ++ [(pc, fit)]) x.out fit) x.arg fit
      have hb' : b' = some c := by
        have hst : stopD false N V1 (some c) x.arg j := .inl ⟨by simp, rfl⟩
        cases h2 with
        | stop _ => rfl
        | leaf _ h => exact absurd hst h
        | mt _ h => exact absurd hst h
        | read _ h => exact absurd hst h
        | one _ h => exact absurd hst h
        | cap _ h => exact absurd hst h
        | two _ h => exact absurd hst h
      subst hb'
      rw [hZ]
      exact ⟨pike_more _ _ _ _ _ g1, fun h => by cases h⟩
    | none =>
      obtain ⟨k1, k2, k3⟩ := g2 rfl
      obtain ⟨m1, m2⟩ := ih2 rfl b3 b4 hj k3 (by rw [k2]; exact g1)
      rw [k2] at m1 m2
      refine ⟨m1, fun hb => ?_⟩
      obtain ⟨n1, n2, n3⟩ := m2 hb
      exact ⟨fun i hi => by rw [n1 i hi, k1 i hi, V.add_ne _ (by omega)], n2, n3⟩
end
end Go.Proofs.YtbhcgjahlfpjoaaDoor
namespace Go.Proofs.YtbhcgjahlfpjoaaDoor

/-- Where a fit begins. -/
def beg (f : List Int) : Int := f[0]?.getD 0
section
variable (L : List MI) (T R : Nat → MI → Bool) (s0 : Int) (f0 : Nat → List Int)
/-- Through a place's list: the best match, the next place's list. -/
def scanP (lng : Bool) (j : Nat) : List Th → Option (List Int) → List Th → Option (List Int) × List Th
  | [], b, Y => (b, Y)
  | t :: X, b, Y =>
    if (∃ c, b = some c ∧ beg c < beg t.2) then (b, Y) else
    if isM L t = true then
      let b2 := if b = none ∨ (∃ c, b = some c ∧ beg t.2 < beg c) ∨ lng = false ∨ (∃ c, b = some c ∧ c[1]?.getD 0 < (j : Int)) then some (t.2.set 1 (j : Int)) else b
      if lng = false then (b2, Y) else scanP lng j X b2 Y
    else scanP lng j X b (step1 L T R j Y t)
/-- From place to place. -/
def findP (lng anch : Bool) (frm : Nat) : Nat → Nat → List Th → Option (List Int) → Option (List Int)
  | 0, _, _, b => b
  | k + 1, j, X, b =>
    let X1 := if b = none ∧ (anch = false ∨ j = frm) then closeL L T j X s0 (f0 j) else X
    if X1 = [] ∧ (b ≠ none ∨ anch = true) then b else
    findP lng anch frm k (j + 1) (scanP L T R lng j X1 b []).2 (scanP L T R lng j X1 b []).1
end

section
variable {L : List MI} {T R : Nat → MI → Bool} {s0 : Int} {f0 : Nat → List Int}
theorem pike_nil (k : Nat) : ∀ j, pike L T R k j [] = none := by
  induction k with
  | zero => intro j; rfl
  | succ k ih =>
    intro j
    show ((pike L T R k (j + 1) (stepL L T R j (pre L []) [])).or ((fst L []).map fun t => t.2.set 1 (j : Int))) = none
    rw [show stepL L T R j (pre L []) [] = [] from rfl, ih]
    rfl
/-- Caps do not write where a fit begins. -/
def CapsAt (L : List MI) : Prop := ∀ x ∈ L, x.op = 4 → 2 ≤ x.arg
theorem beg_set {f : List Int} {i : Nat} {v : Int} (hi : 1 ≤ i) : beg (f.set i v) = beg f := by
  unfold beg
  rw [List.getElem?_set_ne (by omega)]
/-- All that one comes to begins where one began. -/
theorem comeL_beg (hC : CapsAt L) {Tj : MI → Bool} {place : Int} (k : Nat) : ∀ (X : List Th) (pc : Int) (fit : List Int), ∀ t ∈ comeL L Tj place k X pc fit, t ∈ X ∨ (beg t.2 = beg fit ∧ t.2.length = fit.length) := by
  induction k with
  | zero => intro X pc fit t ht; exact .inl ht
  | succ k ih =>
    intro X pc fit t ht
    have snoc : ∀ t ∈ X ++ [(pc, fit)], t ∈ X ∨ (beg t.2 = beg fit ∧ t.2.length = fit.length) := fun t ht => by
      rcases List.mem_append.1 ht with h | h
      · exact .inl h
      · obtain rfl := List.mem_singleton.1 h; exact .inr ⟨rfl, rfl⟩
    unfold comeL at ht
    split at ht
    · exact .inl ht
    · split at ht
      · exact snoc t ht
      · rename_i x hx
        split at ht
        · rcases ih _ _ _ t ht with h | h
          · rcases ih _ _ _ t h with h | h
            · exact snoc t h
            · exact .inr h
          · exact .inr h
        · split at ht
          · rename_i h4
            rcases ih _ _ _ t ht with h | h
            · exact snoc t h
            · have := hC x (List.mem_of_getElem? hx) h4
              rw [beg_set (by omega), List.length_set] at h
              exact .inr h
          · split at ht
            · rcases ih _ _ _ t ht with h | h
              · exact snoc t h
              · exact .inr h
            · exact snoc t ht
/-- A list whose fits begin later and later. -/
def Rises (X : List Th) : Prop := X.Pairwise fun s t => beg s.2 ≤ beg t.2
theorem closeL_new (hC : CapsAt L) {j : Nat} {X : List Th} {pc : Int} {fit : List Int} : ∃ Z, closeL L T j X pc fit = X ++ Z ∧ ∀ t ∈ Z, beg t.2 = beg fit ∧ t.2.length = fit.length := by
  have hall : ∀ (k : Nat) (X : List Th) (pc : Int) (fit : List Int), ∃ Z, comeL L (T j) (j : Int) k X pc fit = X ++ Z ∧ ∀ t ∈ Z, beg t.2 = beg fit ∧ t.2.length = fit.length := by
    intro k
    induction k with
    | zero => intro X pc fit; exact ⟨[], by simp [comeL], fun _ h => by cases h⟩
    | succ k ih =>
      intro X pc fit
      have one : ∀ pc' fit', beg fit' = beg fit → fit'.length = fit.length → ∃ Z, comeL L (T j) (j : Int) k (X ++ [(pc, fit)]) pc' fit' = X ++ Z ∧ ∀ t ∈ Z, beg t.2 = beg fit ∧ t.2.length = fit.length := fun pc' fit' hb hl => by
        obtain ⟨Z, h1, h2⟩ := ih (X ++ [(pc, fit)]) pc' fit'
        refine ⟨(pc, fit) :: Z, by rw [h1]; simp, fun t ht => ?_⟩
        rcases List.mem_cons.1 ht with rfl | ht
        · exact ⟨rfl, rfl⟩
        · rw [← hb, ← hl]; exact h2 t ht
      have leaf : ∃ Z, X ++ [(pc, fit)] = X ++ Z ∧ ∀ t ∈ Z, beg t.2 = beg fit ∧ t.2.length = fit.length := ⟨[(pc, fit)], rfl, fun t ht => by obtain rfl := List.mem_singleton.1 ht; exact ⟨rfl, rfl⟩⟩
      unfold comeL
      split
      · exact ⟨[], by simp, fun _ h => by cases h⟩
      · split
        · exact leaf
        · rename_i x hx
          split
          · obtain ⟨Z, h1, h2⟩ := one x.out fit rfl rfl
            obtain ⟨Z2, h3, h4⟩ := ih (comeL L (T j) (j : Int) k (X ++ [(pc, fit)]) x.out fit) x.arg fit
            refine ⟨Z ++ Z2, by rw [h3, h1, List.append_assoc], fun t ht => ?_⟩
            rcases List.mem_append.1 ht with h | h
            · exact h2 t h
            · exact h4 t h
          · split
            · rename_i h4
              have := hC x (List.mem_of_getElem? hx) h4
              exact one _ _ (beg_set (by omega)) (List.length_set ..)
            · split
              · exact one _ _ rfl rfl
              · exact leaf
  exact hall _ X pc fit
/-- The next list out of a rising one rises, and begins where that one does. -/
theorem stepL_rises (hC : CapsAt L) {j : Nat} (Y : List Th) : ∀ X, Rises X → Rises Y → (∀ s ∈ X, ∀ t ∈ Y, beg s.2 ≤ beg t.2) → Rises (stepL L T R j Y X) ∧ ∀ t ∈ stepL L T R j Y X, t ∈ X ∨ ∃ s ∈ Y, beg t.2 = beg s.2 ∧ t.2.length = s.2.length := by
  induction Y with
  | nil => intro X hX _ _; exact ⟨hX, fun t ht => .inl ht⟩
  | cons s Y ih =>
    intro X hX hY hXY
    obtain ⟨hs, hY'⟩ := List.pairwise_cons.1 hY
    have hst : ∃ Z, step1 L T R j X s = X ++ Z ∧ ∀ t ∈ Z, beg t.2 = beg s.2 ∧ t.2.length = s.2.length := by
      unfold step1
      split
      · exact ⟨[], by simp, fun _ h => by cases h⟩
      · split
        · exact closeL_new hC
        · exact ⟨[], by simp, fun _ h => by cases h⟩
    obtain ⟨Z, h1, h2⟩ := hst
    have hr : Rises (X ++ Z) := by
      unfold Rises
      rw [List.pairwise_append]
      refine ⟨hX, ?_, fun a ha b hb => by rw [(h2 b hb).1]; exact hXY a ha s List.mem_cons_self⟩
      rw [List.pairwise_iff_getElem]
      intro i k hi hk _
      rw [(h2 _ (List.getElem_mem hi)).1, (h2 _ (List.getElem_mem hk)).1]
      exact Int.le_refl _
    obtain ⟨g1, g2⟩ := ih (X ++ Z) hr hY' (fun a ha t ht => by
      rcases List.mem_append.1 ha with h | h
      · exact hXY a h t (List.mem_cons_of_mem _ ht)
      · rw [(h2 a h).1]; exact hs t ht)
    show Rises (stepL L T R j Y (step1 L T R j X s)) ∧ ∀ t ∈ stepL L T R j Y (step1 L T R j X s), _
    rw [h1]
    refine ⟨g1, fun t ht => ?_⟩
    rcases g2 t ht with h | ⟨u, hu, h⟩
    · rcases List.mem_append.1 h with h | h
      · exact .inl h
      · exact .inr ⟨s, List.mem_cons_self, h2 t h⟩
    · exact .inr ⟨u, List.mem_cons_of_mem _ hu, h⟩
end
end Go.Proofs.YtbhcgjahlfpjoaaDoor
namespace Go.Proofs.YtbhcgjahlfpjoaaDoor

section
variable {L : List MI} {T R : Nat → MI → Bool} {s0 : Int} {f0 : Nat → List Int}
theorem fst_split {X : List Th} {t : Th} (h : fst L X = some t) : ∃ Z, X = pre L X ++ t :: Z := by
  induction X with
  | nil => cases h
  | cons s X ih =>
    unfold fst pre at *
    rw [List.find?_cons] at h
    cases hs : isM L s with
    | true =>
      rw [hs] at h
      injection h with h
      subst h
      exact ⟨X, by simp [hs]⟩
    | false =>
      rw [hs] at h
      obtain ⟨Z, hZ⟩ := ih h
      refine ⟨Z, ?_⟩
      rw [List.takeWhile_cons, hs]
      simp only [Bool.not_false, if_true, List.cons_append]
      rw [← hZ]
theorem pre_sub {X : List Th} {t : Th} (h : t ∈ pre L X) : t ∈ X := (List.takeWhile_sublist _).subset h
theorem pre_rises {X : List Th} (h : Rises X) : Rises (pre L X) := List.Pairwise.sublist (List.takeWhile_sublist _) h
theorem scan_none (j : Nat) (X : List Th) : ∀ Y, scanP L T R false j X none Y = ((fst L X).map fun t => t.2.set 1 (j : Int), stepL L T R j (pre L X) Y) := by
  induction X with
  | nil => intro Y; rfl
  | cons t X ih =>
    intro Y
    rw [scanP, if_neg (by rintro ⟨c, h, _⟩; cases h)]
    unfold fst pre
    rw [List.find?_cons, List.takeWhile_cons]
    cases hm : isM L t with
    | true => simp [stepL]
    | false =>
      simp only [Bool.not_false, if_true]
      rw [if_neg (by simp), ih]
      rfl
theorem scan_some (j : Nat) (c : List Int) (X : List Th) : ∀ Y, (∀ t ∈ X, beg t.2 ≤ beg c) → scanP L T R false j X (some c) Y = (((fst L X).map fun t => t.2.set 1 (j : Int)).or (some c), stepL L T R j (pre L X) Y) := by
  induction X with
  | nil => intro Y _; rfl
  | cons t X ih =>
    intro Y h
    rw [scanP, if_neg (by rintro ⟨c', h1, h2⟩; cases h1; have := h t List.mem_cons_self; omega)]
    unfold fst pre
    rw [List.find?_cons, List.takeWhile_cons]
    cases hm : isM L t with
    | true => simp [stepL]
    | false =>
      simp only [Bool.not_false, if_true]
      rw [if_neg (by simp), ih _ fun s hs => h s (List.mem_cons_of_mem _ hs)]
      rfl
theorem find_some (hC : CapsAt L) (anch : Bool) (frm : Nat) (k : Nat) : ∀ (j : Nat) (X : List Th) (c : List Int), Rises X → (∀ t ∈ X, beg t.2 ≤ beg c) → findP L T R s0 f0 false anch frm k j X (some c) = (pike L T R k j X).or (some c) := by
  induction k with
  | zero => intro _ _ _ _ _; rfl
  | succ k ih =>
    intro j X c hX hc
    simp only [findP, reduceCtorEq, false_and, if_false]
    by_cases he : X = []
    · rw [if_pos ⟨he, .inl (by simp)⟩, he, pike_nil]; rfl
    · rw [if_neg (by rintro ⟨h, _⟩; exact he h), scan_some j c X [] hc]
      obtain ⟨g1, g2⟩ := stepL_rises (L := L) (T := T) (R := R) hC (j := j) (pre L X) [] List.Pairwise.nil (pre_rises hX) (fun _ h => by cases h)
      have hY : ∀ d, (∀ s ∈ pre L X, beg s.2 ≤ beg d) → ∀ t ∈ stepL L T R j (pre L X) [], beg t.2 ≤ beg d := fun d hd t ht => by
        rcases g2 t ht with h | ⟨s, hs, h, _⟩
        · cases h
        · rw [h]; exact hd s hs
      cases hf : fst L X with
      | none =>
        rw [pike, hf]
        simp only [Option.map_none, Option.none_or, Option.or_none]
        exact ih _ _ _ g1 (hY c fun s hs => hc s (pre_sub hs))
      | some t =>
        obtain ⟨Z, hZ⟩ := fst_split hf
        have hle : ∀ s ∈ pre L X, beg s.2 ≤ beg (t.2.set 1 (j : Int)) := fun s hs => by
          rw [beg_set (Nat.le_refl 1)]
          unfold Rises at hX
          rw [hZ, List.pairwise_append] at hX
          exact hX.2.2 s hs t List.mem_cons_self
        rw [pike, hf]
        simp only [Option.map_some, Option.some_or]
        rw [ih _ _ _ g1 (hY _ hle)]
        cases pike L T R k (j + 1) (stepL L T R j (pre L X) []) <;> rfl
/-- Begun at each place. -/
theorem find_all (hC : CapsAt L) (hf0 : ∀ j, beg (f0 j) = (j : Int)) (frm : Nat) (k : Nat) : ∀ (j : Nat) (X : List Th), Rises X → (∀ t ∈ X, beg t.2 ≤ (j : Int)) → findP L T R s0 f0 false false frm k j X none = pikeAll L T R s0 f0 k j X := by
  induction k with
  | zero => intro _ _ _ _; rfl
  | succ k ih =>
    intro j X hX hj
    obtain ⟨Z, hZ, hz⟩ := closeL_new (L := L) (T := T) hC (j := j) (X := X) (pc := s0) (fit := f0 j)
    have hr : Rises (closeL L T j X s0 (f0 j)) := by
      rw [hZ]
      unfold Rises
      rw [List.pairwise_append]
      refine ⟨hX, ?_, fun a ha b hb => by rw [(hz b hb).1, hf0]; exact hj a ha⟩
      rw [List.pairwise_iff_getElem]
      intro i k hi hk _
      rw [(hz _ (List.getElem_mem hi)).1, (hz _ (List.getElem_mem hk)).1]
      exact Int.le_refl _
    have hb : ∀ t ∈ closeL L T j X s0 (f0 j), beg t.2 ≤ (j : Int) := fun t ht => by
      rw [hZ] at ht
      rcases List.mem_append.1 ht with h | h
      · exact hj t h
      · rw [(hz t h).1, hf0]; exact Int.le_refl _
    simp only [findP, true_and, true_or, if_true, ne_eq, not_true_eq_false, false_or, Bool.false_eq_true, and_false, if_false]
    rw [scan_none, pikeAll]
    generalize closeL L T j X s0 (f0 j) = X1 at hr hb
    obtain ⟨g1, g2⟩ := stepL_rises (L := L) (T := T) (R := R) hC (j := j) (pre L X1) [] List.Pairwise.nil (pre_rises hr) (fun _ h => by cases h)
    have hY : ∀ d : Int, (∀ s ∈ pre L X1, beg s.2 ≤ d) → ∀ t ∈ stepL L T R j (pre L X1) [], beg t.2 ≤ d := fun d hd t ht => by
      rcases g2 t ht with h | ⟨s, hs, h, _⟩
      · cases h
      · rw [h]; exact hd s hs
    cases hf : fst L X1 with
    | none =>
      rw [if_pos rfl]
      have hp : pre L X1 = X1 := ((pre_app (L := L) X1 []).2 hf).2.1
      rw [hp] at g1 hY ⊢
      simp only [Option.map_none]
      exact ih _ _ g1 (hY _ fun s hs => by have := hb s hs; omega)
    | some t =>
      rw [if_neg (by simp)]
      obtain ⟨Z, hZ⟩ := fst_split hf
      have hle : ∀ s ∈ pre L X1, beg s.2 ≤ beg (t.2.set 1 (j : Int)) := fun s hs => by
        rw [beg_set (Nat.le_refl 1)]
        unfold Rises at hr
        rw [hZ, List.pairwise_append] at hr
        exact hr.2.2 s hs t List.mem_cons_self
      simp only [Option.map_some]
      rw [find_some hC false frm k _ _ _ g1 (hY _ hle), pike, hf]
      rfl
/-- Begun at one place alone. -/
theorem find_anch (hC : CapsAt L) (frm : Nat) (k : Nat) : ∀ (j : Nat) (X : List Th), frm < j → Rises X → findP L T R s0 f0 false true frm k j X none = pike L T R k j X := by
  induction k with
  | zero => intro _ _ _ _; rfl
  | succ k ih =>
    intro j X hj hr
    have hne : ¬ (j = frm) := by omega
    simp only [findP, true_and, hne, or_false, Bool.true_eq_false, if_false, or_true, and_true]
    by_cases he : X = []
    · rw [if_pos he, he, pike_nil]
    · rw [if_neg he, scan_none]
      obtain ⟨g1, g2⟩ := stepL_rises (L := L) (T := T) (R := R) hC (j := j) (pre L X) [] List.Pairwise.nil (pre_rises hr) (fun _ h => by cases h)
      have hY : ∀ d : Int, (∀ s ∈ pre L X, beg s.2 ≤ d) → ∀ t ∈ stepL L T R j (pre L X) [], beg t.2 ≤ d := fun d hd t ht => by
        rcases g2 t ht with h | ⟨s, hs, h, _⟩
        · cases h
        · rw [h]; exact hd s hs
      rw [pike]
      cases hf : fst L X with
      | none =>
        simp only [Option.map_none, Option.or_none]
        exact ih _ _ (by omega) g1
      | some t =>
        obtain ⟨Z, hZ⟩ := fst_split hf
        have hle : ∀ s ∈ pre L X, beg s.2 ≤ beg (t.2.set 1 (j : Int)) := fun s hs => by
          rw [beg_set (Nat.le_refl 1)]
          unfold Rises at hr
          rw [hZ, List.pairwise_append] at hr
          exact hr.2.2 s hs t List.mem_cons_self
        simp only [Option.map_some]
        exact find_some hC true frm k _ _ _ g1 (hY _ hle)
theorem closeL_rises (hC : CapsAt L) (j : Nat) (pc : Int) (fit : List Int) : Rises (closeL L T j [] pc fit) := by
  obtain ⟨Z, hZ, hz⟩ := closeL_new (L := L) (T := T) hC (j := j) (X := []) (pc := pc) (fit := fit)
  rw [hZ, List.nil_append]
  unfold Rises
  rw [List.pairwise_iff_getElem]
  intro i k hi hk _
  rw [(hz _ (List.getElem_mem hi)).1, (hz _ (List.getElem_mem hk)).1]
  exact Int.le_refl _
theorem find_anch0 (hC : CapsAt L) (frm k : Nat) : findP L T R s0 f0 false true frm (k + 1) frm [] none = pike L T R (k + 1) frm (closeL L T frm [] s0 (f0 frm)) := by
  have hr := closeL_rises (T := T) hC frm s0 (f0 frm)
  simp only [findP, or_true, if_true, and_true]
  generalize closeL L T frm [] s0 (f0 frm) = X at hr
  by_cases he : X = []
  · rw [if_pos he, he, pike_nil]
  · rw [if_neg he, scan_none]
    obtain ⟨g1, g2⟩ := stepL_rises (L := L) (T := T) (R := R) hC (j := frm) (pre L X) [] List.Pairwise.nil (pre_rises hr) (fun _ h => by cases h)
    rw [pike]
    cases hf : fst L X with
    | none =>
      simp only [Option.map_none, Option.or_none]
      exact find_anch hC frm k _ _ (by omega) g1
    | some t =>
      obtain ⟨Z, hZ⟩ := fst_split hf
      have hle : ∀ u ∈ stepL L T R frm (pre L X) [], beg u.2 ≤ beg (t.2.set 1 (frm : Int)) := fun u hu => by
        rcases g2 u hu with h | ⟨s, hs, h, _⟩
        · cases h
        · rw [h, beg_set (Nat.le_refl 1)]
          unfold Rises at hr
          rw [hZ, List.pairwise_append] at hr
          exact hr.2.2 s hs t List.mem_cons_self
      simp only [Option.map_some]
      exact find_some hC true frm k _ _ _ g1 hle
end
end Go.Proofs.YtbhcgjahlfpjoaaDoor
namespace Go.Proofs.YtbhcgjahlfpjoaaDoor

section
variable (L : List MI) (T R : Nat → MI → Bool) (s0 : Int) (f0 : Nat → List Int)
/-- The longest match of a list at a place, the first one of those. -/
def pikeL : Nat → Nat → List Th → Option (List Int)
  | 0, _, _ => none
  | k + 1, j, X => (pikeL k (j + 1) (stepL L T R j X [])).or ((fst L X).map fun t => t.2.set 1 (j : Int))
/-- The first place at which one begins that matches, the longest match. -/
def firstL : Nat → Nat → Option (List Int)
  | 0, _ => none
  | k + 1, j => (pikeL L T R (k + 1) j (closeL L T j [] s0 (f0 j))).or (firstL k (j + 1))
/-- The match at the last level below k that has one. -/
def lastM (V : Lev) : Nat → Option (List Int)
  | 0 => none
  | k + 1 => ((fst L (V k)).map fun t => t.2.set 1 (k : Int)).or (lastM V k)
end

section
variable {L : List MI} {T R : Nat → MI → Bool} {s0 : Int} {f0 : Nat → List Int}
def LenOK (V : Lev) : Prop := ∀ i, ∀ t ∈ V i, 2 ≤ t.2.length
theorem LenOK.add {V : Lev} (h : LenOK V) {j : Nat} {t : Th} (ht : 2 ≤ t.2.length) : LenOK (V.add j t) := fun i s hs => by
  by_cases e : i = j
  · subst e
    rw [V.add_at] at hs
    rcases List.mem_append.1 hs with h1 | h1
    · exact h _ s h1
    · obtain rfl := List.mem_singleton.1 h1; exact ht
  · rw [V.add_ne t e] at hs; exact h i s hs
theorem set_one {f : List Int} (h : 2 ≤ f.length) (v : Int) : (f.set 1 v)[1]?.getD 0 = v := by
  rw [List.getElem?_set_self (by omega)]; rfl
theorem fst_mem {X : List Th} {t : Th} (h : fst L X = some t) : t ∈ X := List.mem_of_find?_eq_some h
theorem lastM_lt {V : Lev} (hV : LenOK V) (k : Nat) : ∀ c, lastM L V k = some c → c[1]?.getD 0 < (k : Int) := by
  induction k with
  | zero => intro c h; cases h
  | succ k ih =>
    intro c h
    unfold lastM at h
    cases hf : fst L (V k) with
    | none => rw [hf] at h; have := ih c (by simpa using h); omega
    | some t =>
      rw [hf] at h
      simp only [Option.map_some, Option.some_or] at h
      injection h with h
      rw [← h, set_one (hV k t (fst_mem hf))]
      omega
theorem fst_app {X : List Th} {t : Th} : fst L (X ++ [t]) = (fst L X).or (if isM L t = true then some t else none) := by
  unfold fst
  rw [List.find?_append]
  congr 1
  cases h : isM L t <;> simp [h]
theorem lastM_no {V : Lev} {j : Nat} {t : Th} (hm : isM L t = false) (k : Nat) : lastM L (V.add j t) k = lastM L V k := by
  induction k with
  | zero => rfl
  | succ k ih =>
    unfold lastM
    rw [ih]
    by_cases e : k = j
    · subst e; rw [V.add_at, fst_app, hm]; simp
    · rw [V.add_ne t e]
theorem lastM_low {V : Lev} {j : Nat} {t : Th} (k : Nat) (hk : k ≤ j) : lastM L (V.add j t) k = lastM L V k := by
  induction k with
  | zero => rfl
  | succ k ih =>
    unfold lastM
    rw [ih (by omega), V.add_ne t (by omega)]
theorem lastM_m {V : Lev} (hV : LenOK V) {j : Nat} {t : Th} (hm : isM L t = true) (k : Nat) : j < k → lastM L (V.add j t) k = better (lastM L V k) t.2 j := by
  induction k with
  | zero => intro h; omega
  | succ k ih =>
    intro hk
    unfold lastM
    by_cases e : k = j
    · subst e
      rw [V.add_at, fst_app, if_pos hm, lastM_low k (Nat.le_refl _)]
      cases hf : fst L (V k) with
      | none =>
        simp only [Option.none_or, Option.map_some, Option.some_or, Option.map_none]
        cases hl : lastM L V k with
        | none => rfl
        | some c => have := lastM_lt hV k c hl; simp only [better]; rw [if_pos this]
      | some u =>
        simp only [Option.some_or, Option.map_some, better]
        rw [set_one (hV k u (fst_mem hf)), if_neg (by omega)]
    · rw [V.add_ne t e, ih (by omega)]
      cases hf : fst L (V k) with
      | none => simp
      | some u =>
        simp only [Option.some_or, Option.map_some, better]
        rw [set_one (hV k u (fst_mem hf)), if_neg (by omega)]
theorem lastM_pike {V : Lev} (k : Nat) : ∀ s, LevOK L T R s V → lastM L V (s + k) = (pikeL L T R k s (V s)).or (lastM L V s) := by
  induction k with
  | zero => intro s _; rfl
  | succ k ih =>
    intro s h
    rw [show s + (k + 1) = s + 1 + k by omega, ih (s + 1) (fun i hi => h i (by omega)), h s (Nat.le_refl _), pikeL, Option.or_assoc]
    rfl
/-- The walk that goes on behind a match. -/
theorem dfs_long (hL : Leads3 L) {N : Nat} (hR : ∀ x, R N x = false) {V V' : Lev} {b b' : Option (List Int)} {pc : Int} {j : Nat} {fit : List Int} (h : Dfs L T R true N V b pc j fit V' b') :
    0 ≤ pc → pc < (L.length : Int) → j ≤ N → 2 ≤ fit.length → LenOK V → LevOK L T R j V → b = lastM L V (N + 1) →
      (∀ i, i < j → V' i = V i) ∧ V' j = closeL L T j (V j) pc fit ∧ LevOK L T R j V' ∧ LenOK V' ∧ b' = lastM L V' (N + 1) := by
  have go : ∀ {V : Lev} {b : Option (List Int)} {pc : Int} {j : Nat}, ¬ stopD true N V b pc j → inT (V j) pc = false := fun {V b pc j} h => by
    cases hi : inT (V j) pc with
    | false => rfl
    | true => exact absurd (.inr (.inr hi)) h
  induction h with
  | @stop V b pc j fit hs =>
    intro h0 hn hj hf hv hl hb
    have hin : inT (V j) pc = true := by
      rcases hs with h | h | h
      · cases h.2
      · omega
      · exact h
    rw [closeL_old _ hin]
    exact ⟨fun _ _ => rfl, rfl, hl, hv, hb⟩
  | @leaf V b pc j fit x hs hx ho =>
    intro h0 hn hj hf hv hl hb
    have hno : ∀ Y, step1 L T R j Y (pc, fit) = Y := step1_no hx (by rintro ⟨h1, h2⟩; rcases ho with h | h | h; omega; simp [h.2] at h2; omega)
    have hm : isM L (pc, fit) = false := by rw [isM_op (t := (pc, fit)) hx]; rw [beq_eq_false_iff_ne]; rcases ho with h | h | h <;> omega
    have hc : closeL L T j (V j) pc fit = V j ++ [(pc, fit)] := by
      rw [closeL_eq hL fit h0 hn (go hs) hx, if_neg (by rcases ho with h | h | h <;> omega), if_neg (by rcases ho with h | h | h <;> omega), if_neg (by rintro ⟨h1, h2⟩; rcases ho with h | h | h; omega; omega; simp [h.2] at h2)]
    rw [hc]
    exact ⟨fun i hi => V.add_ne _ (by omega), V.add_at _ _, hl.add hno, hv.add hf, by rw [lastM_no hm]; exact hb⟩
  | @mt V b pc j fit x hs hx ho =>
    intro h0 hn hj hf hv hl hb
    have hno : ∀ Y, step1 L T R j Y (pc, fit) = Y := step1_no hx (by rintro ⟨h1, h2⟩; omega)
    have hm : isM L (pc, fit) = true := by rw [isM_op (t := (pc, fit)) hx, ho]; rfl
    have hc : closeL L T j (V j) pc fit = V j ++ [(pc, fit)] := by
      rw [closeL_eq hL fit h0 hn (go hs) hx, if_neg (by omega), if_neg (by omega), if_neg (by omega)]
    rw [hc]
    exact ⟨fun i hi => V.add_ne _ (by omega), V.add_at _ _, hl.add hno, hv.add hf, by rw [lastM_m hv hm (N + 1) (by omega), hb]⟩
  | @read V V' b b' pc j fit x hs hx ho hr _ ih =>
    intro h0 hn hj hf hv hl hb
    obtain ⟨a1, a2⟩ := (hL x (List.mem_of_getElem? hx)).2 (.inl ho)
    have hjN : j < N := by
      rcases Nat.lt_or_ge j N with h | h
      · exact h
      · have : j = N := by omega
        subst this
        rw [hR x] at hr; cases hr
    have hm : isM L (pc, fit) = false := by rw [isM_op (t := (pc, fit)) hx, ho]; rfl
    have hc : closeL L T j (V j) pc fit = V j ++ [(pc, fit)] := by
      rw [closeL_eq hL fit h0 hn (go hs) hx, if_neg (by omega), if_neg (by omega), if_neg (by omega)]
    have hV1 : V.add j (pc, fit) (j + 1) = V (j + 1) := V.add_ne _ (by omega)
    have hlv : LevOK L T R (j + 1) (V.add j (pc, fit)) := fun i hi => by
      rw [V.add_ne _ (by omega), V.add_ne _ (by omega)]; exact hl i (by omega)
    obtain ⟨k1, k2, k3, k4, k5⟩ := ih a1 a2 (by omega) hf (hv.add hf) hlv (by rw [lastM_no hm]; exact hb)
    rw [hV1] at k2
    have hst : stepL L T R j (V j ++ [(pc, fit)]) [] = closeL L T (j + 1) (V (j + 1)) x.out fit := by
      rw [stepL_app, hl j (Nat.le_refl _)]
      exact step1_yes (t := (pc, fit)) hx ⟨ho, hr⟩ _
    have hVj : V' j = V j ++ [(pc, fit)] := by rw [k1 j (by omega), V.add_at]
    refine ⟨fun i hi => by rw [k1 i (by omega), V.add_ne _ (by omega)], by rw [hVj, hc], fun i hi => ?_, k4, k5⟩
    by_cases e : i = j
    · subst e; rw [k2, hVj, hst]
    · exact k3 i (by omega)
  | @one V V' b b' pc j fit x hs hx ho ht _ ih =>
    intro h0 hn hj hf hv hl hb
    obtain ⟨a1, a2⟩ := (hL x (List.mem_of_getElem? hx)).2 (by omega)
    have hno : ∀ Y, step1 L T R j Y (pc, fit) = Y := step1_no hx (by rintro ⟨h1, h2⟩; omega)
    have hm : isM L (pc, fit) = false := by rw [isM_op (t := (pc, fit)) hx, ho]; rfl
    have hc : closeL L T j (V j) pc fit = closeL L T j (V j ++ [(pc, fit)]) x.out fit := by
      rw [closeL_eq hL fit h0 hn (go hs) hx, if_neg (by omega), if_neg (by omega), if_pos ⟨ho, ht⟩]
    obtain ⟨k1, k2, k3, k4, k5⟩ := ih a1 a2 hj hf (hv.add hf) (hl.add hno) (by rw [lastM_no hm]; exact hb)
    rw [V.add_at] at k2
    exact ⟨fun i hi => by rw [k1 i hi, V.add_ne _ (by omega)], by rw [k2, hc], k3, k4, k5⟩
  | @cap V V' b b' pc j fit x hs hx ho _ ih =>
    intro h0 hn hj hf hv hl hb
    obtain ⟨a1, a2⟩ := (hL x (List.mem_of_getElem? hx)).2 (by omega)
    have hno : ∀ Y, step1 L T R j Y (pc, fit) = Y := step1_no hx (by rintro ⟨h1, h2⟩; omega)
    have hm : isM L (pc, fit) = false := by rw [isM_op (t := (pc, fit)) hx, ho]; rfl
    have hc : closeL L T j (V j) pc fit = closeL L T j (V j ++ [(pc, fit)]) x.out (fit.set x.arg.toNat (j : Int)) := by
      rw [closeL_eq hL fit h0 hn (go hs) hx, if_neg (by omega), if_pos ho]
    obtain ⟨k1, k2, k3, k4, k5⟩ := ih a1 a2 hj (by rw [List.length_set]; exact hf) (hv.add hf) (hl.add hno) (by rw [lastM_no hm]; exact hb)
    rw [V.add_at] at k2
    exact ⟨fun i hi => by rw [k1 i hi, V.add_ne _ (by omega)], by rw [k2, hc], k3, k4, k5⟩
  | @two V V1 V' b b1 b' pc j fit x hs hx ho _ _ ih1 ih2 =>
    intro h0 hn hj hf hv hl hb
    obtain ⟨a1, a2⟩ := (hL x (List.mem_of_getElem? hx)).2 (by omega)
    obtain ⟨b3, b4⟩ := (hL x (List.mem_of_getElem? hx)).1 ho
    have hno : ∀ Y, step1 L T R j Y (pc, fit) = Y := step1_no hx (by rintro ⟨h1, h2⟩; omega)
    have hm : isM L (pc, fit) = false := by rw [isM_op (t := (pc, fit)) hx, ho]; rfl
    have hc : closeL L T j (V j) pc fit = closeL L T j (closeL L T j (V j ++ [(pc, fit)]) x.out fit) x.arg fit := by
      rw [closeL_eq hL fit h0 hn (go hs) hx, if_pos ho]
    obtain ⟨k1, k2, k3, k4, k5⟩ := ih1 a1 a2 hj hf (hv.add hf) (hl.add hno) (by rw [lastM_no hm]; exact hb)
    rw [V.add_at] at k2
    obtain ⟨n1, n2, n3, n4, n5⟩ := ih2 b3 b4 hj hf k4 k3 k5
    rw [k2] at n2
    exact ⟨fun i hi => by rw [n1 i hi, k1 i hi, V.add_ne _ (by omega)], by rw [n2, hc], n3, n4, n5⟩
end
end Go.Proofs.YtbhcgjahlfpjoaaDoor
namespace Go.Proofs.YtbhcgjahlfpjoaaDoor

section
variable {L : List MI} {T R : Nat → MI → Bool} {s0 : Int} {f0 : Nat → List Int}
theorem pikeL_nil (k : Nat) : ∀ j, pikeL L T R k j [] = none := by
  induction k with
  | zero => intro j; rfl
  | succ k ih => intro j; rw [pikeL]; rw [show stepL L T R j [] [] = [] from rfl, ih]; rfl
theorem pikeL_dead {k j : Nat} {X : List Th} (h : pikeL L T R (k + 1) j X = none) : fst L X = none ∧ pikeL L T R k (j + 1) (stepL L T R j X []) = none := by
  rw [pikeL, Option.or_eq_none_iff] at h
  exact ⟨by simpa using h.2, h.1⟩
theorem pikeL_flt (hL : Leads3 L) (k : Nat) : ∀ (j : Nat) (V Y : List Th), Closed L (T j) V → pikeL L T R k j V = none → pikeL L T R k j (V ++ flt V Y) = pikeL L T R k j Y := by
  induction k with
  | zero => intro _ _ _ _ _; rfl
  | succ k ih =>
    intro j V Y hV hd
    obtain ⟨h1, h2⟩ := pikeL_dead hd
    obtain ⟨_, _, g3⟩ := (pre_app (L := L) V (flt V Y)).2 h1
    obtain ⟨f1, _⟩ := flt_pre h1 Y
    have hW := stepL_closed (R := R) hL V [] (j := j) (T := T) (fun _ h => by cases h)
    have hs := stepL_flt hL hW (stepL_in (T := T) hL V []) Y []
    simp only [flt, List.filter_nil, List.append_nil] at hs
    rw [pikeL, pikeL, g3, f1, stepL_app]
    rw [show stepL L T R j (flt V Y) (stepL L T R j V []) = stepL L T R j V [] ++ flt (stepL L T R j V []) (stepL L T R j Y []) from hs]
    rw [ih (j + 1) _ _ hW h2]
theorem step1_new (hC : CapsAt L) (j : Nat) (X : List Th) (t : Th) : ∃ Z, step1 L T R j X t = X ++ Z ∧ ∀ z ∈ Z, beg z.2 = beg t.2 ∧ z.2.length = t.2.length := by
  unfold step1
  split
  · exact ⟨[], by simp, fun _ h => by cases h⟩
  · split
    · exact closeL_new hC
    · exact ⟨[], by simp, fun _ h => by cases h⟩
theorem stepL_new (hC : CapsAt L) (j : Nat) (Y : List Th) : ∀ X, ∃ Z, stepL L T R j Y X = X ++ Z ∧ ∀ z ∈ Z, ∃ t ∈ Y, beg z.2 = beg t.2 ∧ z.2.length = t.2.length := by
  induction Y with
  | nil => intro X; exact ⟨[], by simp [stepL], fun _ h => by cases h⟩
  | cons t Y ih =>
    intro X
    obtain ⟨Z, h1, h2⟩ := step1_new (L := L) (T := T) (R := R) hC j X t
    obtain ⟨Z2, h3, h4⟩ := ih (step1 L T R j X t)
    refine ⟨Z ++ Z2, by show stepL L T R j Y (step1 L T R j X t) = _; rw [h3, h1, List.append_assoc], fun z hz => ?_⟩
    rcases List.mem_append.1 hz with h | h
    · exact ⟨t, List.mem_cons_self, h2 z h⟩
    · obtain ⟨u, hu, h⟩ := h4 z h
      exact ⟨u, List.mem_cons_of_mem _ hu, h⟩
theorem step1_isM {j : Nat} {t : Th} (h : isM L t = true) (Y : List Th) : step1 L T R j Y t = Y := by
  unfold isM at h
  unfold step1
  cases hx : L[t.1.toNat]? with
  | none => rfl
  | some x =>
    rw [hx] at h
    have h := beq_iff_eq.1 h
    simp only
    rw [if_neg (by omega)]
theorem scan_dead (j : Nat) (b : Option (List Int)) (X : List Th) (D : List Th) : ∀ Y, fst L D = none → (∀ c, b = some c → ∀ t ∈ D, beg t.2 ≤ beg c) → scanP L T R true j (D ++ X) b Y = scanP L T R true j X b (stepL L T R j D Y) := by
  induction D with
  | nil => intro Y _ _; rfl
  | cons t D ih =>
    intro Y hf hc
    have hm : isM L t = false := by
      have := List.find?_eq_none.1 hf t List.mem_cons_self
      simpa using this
    have hf' : fst L D = none := by unfold fst at hf ⊢; rw [List.find?_cons, hm] at hf; exact hf
    rw [List.cons_append, scanP, if_neg (by rintro ⟨c, h1, h2⟩; have := hc c h1 t List.mem_cons_self; omega), if_neg (by rw [hm]; simp)]
    exact ih _ hf' fun c h s hs => hc c h s (List.mem_cons_of_mem _ hs)
theorem scan_set (j : Nat) (c : List Int) (hj : c[1]?.getD 0 = (j : Int)) (X : List Th) (E : List Th) : ∀ Y, (∀ t ∈ E, beg t.2 = beg c) → scanP L T R true j (E ++ X) (some c) Y = scanP L T R true j X (some c) (stepL L T R j E Y) := by
  induction E with
  | nil => intro Y _; rfl
  | cons t E ih =>
    intro Y hc
    have ht := hc t List.mem_cons_self
    have hr := ih (step1 L T R j Y t) fun s hs => hc s (List.mem_cons_of_mem _ hs)
    rw [List.cons_append, scanP, if_neg (by rintro ⟨c', h1, h2⟩; cases h1; omega)]
    cases hm : isM L t with
    | true =>
      rw [if_pos rfl]
      simp only [reduceCtorEq, false_or, Bool.true_eq_false, if_false]
      rw [if_neg (by rintro (⟨c', h1, h2⟩ | ⟨c', h1, h2⟩) <;> (cases h1; omega))]
      rw [step1_isM hm] at hr
      rw [hr]
      show _ = scanP L T R true j X (some c) (stepL L T R j E (step1 L T R j Y t))
      rw [step1_isM hm]
    | false =>
      rw [if_neg (by simp)]
      exact hr
theorem scan_stop (j : Nat) (c : List Int) (B : List Th) (Y : List Th) (h : ∀ t ∈ B, beg c < beg t.2) : scanP L T R true j B (some c) Y = (some c, Y) := by
  cases B with
  | nil => rfl
  | cons t B => rw [scanP, if_pos ⟨c, rfl, h t List.mem_cons_self⟩]
theorem scan_late (hC : CapsAt L) (s : Int) (j : Nat) (B : List Th) : ∀ (b : Option (List Int)) (Y : List Th), (∀ t ∈ B, s < beg t.2) → (∀ c, b = some c → s < beg c) →
    ∃ B', (scanP L T R true j B b Y).2 = Y ++ B' ∧ (∀ t ∈ B', s < beg t.2) ∧ ∀ c, (scanP L T R true j B b Y).1 = some c → s < beg c := by
  induction B with
  | nil => intro b Y _ hb; exact ⟨[], by simp [scanP], (fun _ h => by cases h), hb⟩
  | cons t B ih =>
    intro b Y hB hb
    have ht := hB t List.mem_cons_self
    have hB' : ∀ u ∈ B, s < beg u.2 := fun u hu => hB u (List.mem_cons_of_mem _ hu)
    rw [scanP]
    split
    · exact ⟨[], by simp, (fun _ h => by cases h), hb⟩
    · split
      · simp only [Bool.true_eq_false, if_false]
        refine ih _ Y hB' fun c hc => ?_
        split at hc
        · injection hc with hc
          rw [← hc, beg_set (Nat.le_refl 1)]; exact ht
        · exact hb c hc
      · obtain ⟨Z, h1, h2⟩ := step1_new (L := L) (T := T) (R := R) hC j Y t
        obtain ⟨B', g1, g2, g3⟩ := ih b (step1 L T R j Y t) hB' hb
        refine ⟨Z ++ B', by rw [g1, h1, List.append_assoc], fun u hu => ?_, g3⟩
        rcases List.mem_append.1 hu with h | h
        · rw [(h2 u h).1]; exact ht
        · exact g2 u h
/-- A scan over the dead, those of one beginning, and later ones. -/
theorem scan_three (j : Nat) (s : Int) (D E B : List Th) (b : Option (List Int)) (hD : fst L D = none) (hDs : ∀ t ∈ D, beg t.2 ≤ s) (hE : ∀ t ∈ E, beg t.2 = s ∧ 2 ≤ t.2.length) (hB : ∀ t ∈ B, s < beg t.2)
    (hb : ∀ c, b = some c → s < beg c ∨ (beg c = s ∧ c[1]?.getD 0 < (j : Int))) :
    (∀ t, fst L E = some t → scanP L T R true j (D ++ (E ++ B)) b [] = (some (t.2.set 1 (j : Int)), stepL L T R j (D ++ E) [])) ∧
    (fst L E = none → scanP L T R true j (D ++ (E ++ B)) b [] = scanP L T R true j B b (stepL L T R j (D ++ E) [])) := by
  have hle : ∀ c, b = some c → s ≤ beg c := fun c h => by rcases hb c h with h | h <;> omega
  refine ⟨fun t ht => ?_, fun hf => ?_⟩
  · obtain ⟨Z, hZ⟩ := fst_split ht
    have hpre : fst L (pre L E) = none := by
      unfold fst pre
      rw [List.find?_eq_none]
      intro u hu
      have := List.all_eq_true.1 List.all_takeWhile u hu
      simpa using this
    have htE : t ∈ E := fst_mem ht
    obtain ⟨e1, e2⟩ := hE t htE
    have hm : isM L t = true := List.find?_some ht
    rw [scan_dead j b _ D [] hD fun c h u hu => Int.le_trans (hDs u hu) (hle c h)]
    rw [stepL_app]
    generalize stepL L T R j D [] = Y
    conv => lhs; rw [hZ]
    conv => rhs; rw [hZ]
    rw [List.append_assoc, scan_dead j b _ (pre L E) Y hpre fun c h u hu => by rw [(hE u (pre_sub hu)).1]; exact hle c h]
    rw [stepL_app]
    generalize stepL L T R j (pre L E) Y = Y2
    rw [List.cons_append, scanP, if_neg (by rintro ⟨c, h1, h2⟩; have := hle c h1; omega), if_pos hm]
    simp only [Bool.true_eq_false, if_false, false_or]
    have hcond : (b = none ∨ (∃ c, b = some c ∧ beg t.2 < beg c) ∨ (∃ c, b = some c ∧ c[1]?.getD 0 < (j : Int))) := by
      cases hb0 : b with
      | none => exact .inl rfl
      | some c =>
        rcases hb c hb0 with h | h
        · exact .inr (.inl ⟨c, rfl, by omega⟩)
        · exact .inr (.inr ⟨c, rfl, h.2⟩)
    rw [if_pos hcond]
    have hbeg : beg (t.2.set 1 (j : Int)) = s := by rw [beg_set (Nat.le_refl 1)]; exact e1
    rw [scan_set j _ (set_one e2 _) B Z Y2 fun u hu => by rw [hbeg]; exact (hE u (by rw [hZ]; simp [hu])).1]
    rw [scan_stop j _ B _ fun u hu => by rw [hbeg]; exact hB u hu]
    show _ = (some (t.2.set 1 (j : Int)), stepL L T R j Z (step1 L T R j Y2 t))
    rw [step1_isM hm]
  · rw [← List.append_assoc, scan_dead j b B (D ++ E) []]
    · rw [((pre_app (L := L) D E).2 hD).2.2]; exact hf
    · intro c h u hu
      rcases List.mem_append.1 hu with h' | h'
      · exact Int.le_trans (hDs u h') (hle c h)
      · rw [(hE u h').1]; exact hle c h
end
end Go.Proofs.YtbhcgjahlfpjoaaDoor
namespace Go.Proofs.YtbhcgjahlfpjoaaDoor

section
variable {L : List MI} {T R : Nat → MI → Bool} {s0 : Int} {f0 : Nat → List Int}
/-- One place, behind the beginning. -/
def bodyP (L : List MI) (T R : Nat → MI → Bool) (s0 : Int) (f0 : Nat → List Int) (anch : Bool) (frm k j : Nat) (X : List Th) (b : Option (List Int)) : Option (List Int) :=
  if X = [] ∧ (b ≠ none ∨ anch = true) then b else
    findP L T R s0 f0 true anch frm k (j + 1) (scanP L T R true j X b []).2 (scanP L T R true j X b []).1
theorem findP_body (anch : Bool) (frm k j : Nat) (X : List Th) (b : Option (List Int)) : findP L T R s0 f0 true anch frm (k + 1) j X b = bodyP L T R s0 f0 anch frm k j (if b = none ∧ (anch = false ∨ j = frm) then closeL L T j X s0 (f0 j) else X) b := rfl
theorem fst_two {D E : List Th} (hD : fst L D = none) : fst L (D ++ E) = fst L E := ((pre_app (L := L) D E).2 hD).2.2
theorem step_two (hC : CapsAt L) (j : Nat) (s : Int) (D E : List Th) (hE : ∀ t ∈ E, beg t.2 = s ∧ 2 ≤ t.2.length) : ∃ E', stepL L T R j (D ++ E) [] = stepL L T R j D [] ++ E' ∧ ∀ t ∈ E', beg t.2 = s ∧ 2 ≤ t.2.length := by
  obtain ⟨Z, h1, h2⟩ := stepL_new (L := L) (T := T) (R := R) hC j E (stepL L T R j D [])
  refine ⟨Z, by rw [stepL_app, h1], fun t ht => ?_⟩
  obtain ⟨u, hu, h3, h4⟩ := h2 t ht
  obtain ⟨h5, h6⟩ := hE u hu
  exact ⟨by rw [h3, h5], by rw [h4]; exact h6⟩
theorem step_dead (hC : CapsAt L) (j : Nat) (s : Int) (D : List Th) (hD : ∀ t ∈ D, beg t.2 ≤ s) : ∀ t ∈ stepL L T R j D [], beg t.2 ≤ s := by
  obtain ⟨Z, h1, h2⟩ := stepL_new (L := L) (T := T) (R := R) hC j D []
  intro t ht
  rw [h1, List.nil_append] at ht
  obtain ⟨u, hu, h3, _⟩ := h2 t ht
  rw [h3]; exact hD u hu
/-- Behind the first match of one beginning. -/
theorem long_some (hC : CapsAt L) (anch : Bool) (frm : Nat) (s : Int) (k : Nat) : ∀ (j : Nat) (D E B : List Th) (c : List Int), pikeL L T R k j D = none → (∀ t ∈ D, beg t.2 ≤ s) → (∀ t ∈ E, beg t.2 = s ∧ 2 ≤ t.2.length) → (∀ t ∈ B, s < beg t.2) → beg c = s → c[1]?.getD 0 < (j : Int) →
    findP L T R s0 f0 true anch frm k j (D ++ (E ++ B)) (some c) = (pikeL L T R k j (D ++ E)).or (some c) := by
  induction k with
  | zero => intro _ _ _ _ _ _ _ _ _ _ _; rfl
  | succ k ih =>
    intro j D E B c hd hD hE hB hc hj
    rw [findP_body, if_neg (by rintro ⟨h, _⟩; cases h), bodyP]
    by_cases he : D ++ (E ++ B) = []
    · rw [if_pos ⟨he, .inl (by simp)⟩]
      have hDE : D ++ E = [] := by
        rw [← List.append_assoc, List.append_eq_nil_iff] at he
        exact he.1
      rw [hDE, pikeL_nil]; rfl
    · rw [if_neg (by rintro ⟨h, _⟩; exact he h)]
      obtain ⟨d1, d2⟩ := pikeL_dead hd
      obtain ⟨g1, g2⟩ := scan_three (T := T) (R := R) j s D E B (some c) d1 hD hE hB (fun c' h => by cases h; exact .inr ⟨hc, hj⟩)
      obtain ⟨E', e1, e2⟩ := step_two (T := T) (R := R) hC j s D E hE
      have hD' := step_dead (T := T) (R := R) hC j s D hD
      rw [pikeL, fst_two d1]
      cases hf : fst L E with
      | none =>
        rw [g2 hf, scan_stop j c B _ fun t ht => by rw [hc]; exact hB t ht]
        simp only [Option.map_none, Option.or_none]
        rw [e1]
        have := ih (j + 1) (stepL L T R j D []) E' [] c d2 hD' e2 (fun _ h => by cases h) hc (by omega)
        rw [List.append_nil] at this
        exact this
      | some t =>
        rw [g1 t hf, e1]
        obtain ⟨t1, t2⟩ := hE t (fst_mem hf)
        have := ih (j + 1) (stepL L T R j D []) E' [] (t.2.set 1 (j : Int)) d2 hD' e2 (fun _ h => by cases h) (by rw [beg_set (Nat.le_refl 1)]; exact t1) (by rw [set_one t2]; omega)
        rw [List.append_nil] at this
        simp only [Option.map_some]
        rw [this]
        cases pikeL L T R k (j + 1) (stepL L T R j D [] ++ E') <;> rfl
/-- A beginning that matches, behind dead ones, is told. -/
theorem long_body (hC : CapsAt L) (hf0 : ∀ j, beg (f0 j) = (j : Int)) (anch : Bool) (frm : Nat) (s : Nat) (a : List Int) (k : Nat) : ∀ (j : Nat) (D E B : List Th) (b : Option (List Int)), s ≤ j → pikeL L T R (k + 1) j D = none → (∀ t ∈ D, beg t.2 ≤ (s : Int)) → (∀ t ∈ E, beg t.2 = (s : Int) ∧ 2 ≤ t.2.length) → (∀ t ∈ B, (s : Int) < beg t.2) →
    (∀ c, b = some c → (s : Int) < beg c) → pikeL L T R (k + 1) j (D ++ E) = some a → bodyP L T R s0 f0 anch frm k j (D ++ (E ++ B)) b = some a := by
  induction k with
  | zero =>
    intro j D E B b hsj hd hD hE hB hb ha
    have he : ¬ D ++ (E ++ B) = [] := by
      intro he
      rw [← List.append_assoc, List.append_eq_nil_iff] at he
      rw [he.1, pikeL_nil] at ha; cases ha
    obtain ⟨d1, d2⟩ := pikeL_dead hd
    obtain ⟨g1, g2⟩ := scan_three (T := T) (R := R) j s D E B b d1 hD hE hB (fun c' h => .inl (hb c' h))
    rw [bodyP, if_neg (by rintro ⟨h, _⟩; exact he h)]
    rw [pikeL, fst_two d1] at ha
    cases hf : fst L E with
    | none => rw [hf] at ha; simp [pikeL] at ha
    | some t =>
      rw [hf] at ha
      rw [g1 t hf]
      simp [pikeL] at ha
      show some (t.2.set 1 (j : Int)) = some a
      rw [ha]
  | succ k ih =>
    intro j D E B b hsj hd hD hE hB hb ha
    have he : ¬ D ++ (E ++ B) = [] := by
      intro he
      rw [← List.append_assoc, List.append_eq_nil_iff] at he
      rw [he.1, pikeL_nil] at ha; cases ha
    obtain ⟨d1, d2⟩ := pikeL_dead hd
    obtain ⟨g1, g2⟩ := scan_three (T := T) (R := R) j s D E B b d1 hD hE hB (fun c' h => .inl (hb c' h))
    obtain ⟨E', e1, e2⟩ := step_two (T := T) (R := R) hC j s D E hE
    have hD' := step_dead (T := T) (R := R) hC j s D hD
    rw [bodyP, if_neg (by rintro ⟨h, _⟩; exact he h)]
    rw [pikeL, fst_two d1] at ha
    cases hf : fst L E with
    | some t =>
      rw [hf] at ha
      rw [g1 t hf, e1]
      obtain ⟨t1, t2⟩ := hE t (fst_mem hf)
      have := long_some (s0 := s0) (f0 := f0) hC anch frm s (k + 1) (j + 1) (stepL L T R j D []) E' [] (t.2.set 1 (j : Int)) d2 hD' e2 (fun _ h => by cases h) (by rw [beg_set (Nat.le_refl 1)]; exact t1) (by rw [set_one t2]; omega)
      rw [List.append_nil] at this
      rw [this, ← e1]
      exact ha
    | none =>
      rw [hf] at ha
      simp only [Option.map_none, Option.or_none] at ha
      rw [g2 hf, e1]
      rw [e1] at ha
      obtain ⟨B', b1, b2, b3⟩ := scan_late (L := L) (T := T) (R := R) hC s j B b (stepL L T R j D [] ++ E') hB hb
      rw [b1, findP_body, List.append_assoc]
      generalize (scanP L T R true j B b (stepL L T R j D [] ++ E')).1 = b' at b3
      split
      · obtain ⟨Z, hZ, hz⟩ := closeL_new (L := L) (T := T) hC (j := j + 1) (X := stepL L T R j D [] ++ (E' ++ B')) (pc := s0) (fit := f0 (j + 1))
        rw [hZ, List.append_assoc, List.append_assoc]
        exact ih (j + 1) _ E' (B' ++ Z) b' (by omega) d2 hD' e2 (fun t ht => by
          rcases List.mem_append.1 ht with h | h
          · exact b2 t h
          · rw [(hz t h).1, hf0]; omega) b3 ha
      · exact ih (j + 1) _ E' B' b' (by omega) d2 hD' e2 b2 b3 ha
theorem scan_all_dead (j : Nat) (X : List Th) (hf : fst L X = none) : scanP L T R true j X none [] = (none, stepL L T R j X []) := by
  have := scan_dead (T := T) (R := R) j none [] X [] hf (fun c h => by cases h)
  rw [List.append_nil] at this
  rw [this]; rfl
/-- Begun at each place: the longest match of the first place that has one. -/
theorem long_all (hL : Leads3 L) (hC : CapsAt L) (hf0 : ∀ j, beg (f0 j) = (j : Int)) (hl0 : ∀ j, 2 ≤ (f0 j).length) (frm : Nat) (k : Nat) : ∀ (j : Nat) (X : List Th), Closed L (T j) X → pikeL L T R k j X = none → (∀ t ∈ X, beg t.2 ≤ (j : Int)) →
    0 ≤ s0 → s0 < (L.length : Int) → findP L T R s0 f0 true false frm k j X none = firstL L T R s0 f0 k j := by
  induction k with
  | zero => intro _ _ _ _ _ _ _; rfl
  | succ k ih =>
    intro j X hX hd hj h0 hn
    have hfl := pikeL_flt hL (k + 1) j X (closeL L T j [] s0 (f0 j)) hX hd
    have hcl := closeL_flt hL hX s0 (f0 j)
    obtain ⟨Z, hZ, hz⟩ := closeL_new (L := L) (T := T) hC (j := j) (X := []) (pc := s0) (fit := f0 j)
    have hE : ∀ t ∈ flt X (closeL L T j [] s0 (f0 j)), beg t.2 = (j : Int) ∧ 2 ≤ t.2.length := fun t ht => by
      have := (List.mem_filter.1 ht).1
      rw [hZ, List.nil_append] at this
      obtain ⟨z1, z2⟩ := hz t this
      exact ⟨by rw [z1, hf0], by rw [z2]; exact hl0 j⟩
    have hcc := (closeL_closed (T := T) hL (f0 j) h0 hn hX).1
    rw [findP_body, if_pos ⟨rfl, .inl rfl⟩, firstL, ← hfl, ← hcl]
    cases hp : pikeL L T R (k + 1) j (closeL L T j X s0 (f0 j)) with
    | some a =>
      rw [Option.some_or]
      rw [hcl] at hp ⊢
      have := long_body (s0 := s0) hC hf0 false frm j a k j X (flt X (closeL L T j [] s0 (f0 j))) [] none (Nat.le_refl _) hd hj hE (fun _ h => by cases h) (fun c h => by cases h) hp
      rw [List.append_nil] at this
      exact this
    | none =>
      rw [Option.none_or]
      obtain ⟨h1, h2⟩ := pikeL_dead hp
      rw [bodyP, if_neg (by rintro ⟨_, h | h⟩; exact h rfl; cases h), scan_all_dead j _ h1]
      refine ih (j + 1) _ (stepL_closed hL _ _ (fun _ h => by cases h)) h2 (fun t ht => ?_) h0 hn
      have hle : ∀ t ∈ closeL L T j X s0 (f0 j), beg t.2 ≤ (j : Int) := fun t ht => by
        rw [hcl] at ht
        rcases List.mem_append.1 ht with h | h
        · exact hj t h
        · rw [(hE t h).1]; exact Int.le_refl _
      have := step_dead (T := T) (R := R) hC j (j : Int) _ hle t ht
      omega
theorem long_anch_dead (frm : Nat) (k : Nat) : ∀ (j : Nat) (X : List Th), frm < j → pikeL L T R k j X = none → findP L T R s0 f0 true true frm k j X none = none := by
  induction k with
  | zero => intro _ _ _ _; rfl
  | succ k ih =>
    intro j X hj hd
    obtain ⟨h1, h2⟩ := pikeL_dead hd
    rw [findP_body, if_neg (by rintro ⟨_, h | h⟩; cases h; omega), bodyP, scan_all_dead j _ h1]
    split
    · rfl
    · exact ih _ _ (by omega) h2
/-- Begun at one place alone. -/
theorem long_anch (hC : CapsAt L) (hf0 : ∀ j, beg (f0 j) = (j : Int)) (hl0 : ∀ j, 2 ≤ (f0 j).length) (frm k : Nat) : findP L T R s0 f0 true true frm (k + 1) frm [] none = pikeL L T R (k + 1) frm (closeL L T frm [] s0 (f0 frm)) := by
  obtain ⟨Z, hZ, hz⟩ := closeL_new (L := L) (T := T) hC (j := frm) (X := []) (pc := s0) (fit := f0 frm)
  rw [List.nil_append] at hZ
  rw [findP_body, if_pos ⟨rfl, .inr rfl⟩, hZ]
  cases hp : pikeL L T R (k + 1) frm Z with
  | some a =>
    have := long_body (L := L) (T := T) (R := R) (s0 := s0) hC hf0 true frm frm a k frm [] Z [] none (Nat.le_refl _) (pikeL_nil _ _) (fun _ h => by cases h) (fun t ht => ⟨by rw [(hz t ht).1, hf0], by rw [(hz t ht).2]; exact hl0 frm⟩) (fun _ h => by cases h) (fun c h => by cases h) hp
    rw [List.append_nil, List.nil_append] at this
    exact this
  | none =>
    obtain ⟨h1, h2⟩ := pikeL_dead hp
    rw [bodyP, scan_all_dead frm _ h1]
    split
    · rfl
    · exact long_anch_dead frm k _ _ (by omega) h2
end
end Go.Proofs.YtbhcgjahlfpjoaaDoor
namespace Go.Proofs.YtbhcgjahlfpjoaaDoor

section
variable {L : List MI} {T R : Nat → MI → Bool} {s0 : Int} {f0 : Nat → List Int}
theorem run_short (hL : Leads3 L) {N : Nat} (hR : ∀ x, R N x = false) {V' : Lev} {b' : Option (List Int)} {s : Nat} {fit : List Int} (h : Dfs L T R false N (fun _ => []) none s0 s fit V' b') (h0 : 0 ≤ s0) (hn : s0 < (L.length : Int)) (hs : s ≤ N) :
    b' = pike L T R (N - s + 1) s (closeL L T s [] s0 fit) :=
  (dfs_pike hL hR h rfl h0 hn hs (fun _ _ => rfl) (pike_nil _ _)).1.symm
theorem lastM_empty {V : Lev} (k : Nat) (h : ∀ i, i < k → V i = []) : lastM L V k = none := by
  induction k with
  | zero => rfl
  | succ k ih =>
    unfold lastM
    rw [h k (by omega), ih fun i hi => h i (by omega)]
    rfl
theorem run_long (hL : Leads3 L) {N : Nat} (hR : ∀ x, R N x = false) {V' : Lev} {b' : Option (List Int)} {s : Nat} {fit : List Int} (h : Dfs L T R true N (fun _ => []) none s0 s fit V' b') (h0 : 0 ≤ s0) (hn : s0 < (L.length : Int)) (hs : s ≤ N) (hf : 2 ≤ fit.length) :
    b' = pikeL L T R (N - s + 1) s (closeL L T s [] s0 fit) := by
  obtain ⟨k1, k2, k3, _, k5⟩ := dfs_long hL hR h h0 hn hs hf (fun _ _ h => by cases h) (fun _ _ => rfl) (lastM_empty (N + 1) fun _ _ => rfl).symm
  have := lastM_pike (N - s + 1) s k3
  rw [show s + (N - s + 1) = N + 1 by omega, lastM_empty s fun i hi => k1 i hi, Option.or_none, k2] at this
  rw [k5, this]
/-- Matches of a list begin where some of the list do. -/
theorem pike_beg (hC : CapsAt L) (k : Nat) : ∀ (j : Nat) (X : List Th) (b : List Int), pike L T R k j X = some b → ∃ t ∈ X, beg b = beg t.2 ∧ b.length = t.2.length := by
  induction k with
  | zero => intro _ _ _ h; cases h
  | succ k ih =>
    intro j X b h
    rw [pike] at h
    cases hp : pike L T R k (j + 1) (stepL L T R j (pre L X) []) with
    | some c =>
      rw [hp, Option.some_or] at h
      injection h with h
      subst h
      obtain ⟨t, ht, h1, h2⟩ := ih _ _ _ hp
      obtain ⟨Z, z1, z2⟩ := stepL_new (L := L) (T := T) (R := R) hC j (pre L X) []
      rw [z1, List.nil_append] at ht
      obtain ⟨u, hu, h3, h4⟩ := z2 t ht
      exact ⟨u, pre_sub hu, by rw [h1, h3], by rw [h2, h4]⟩
    | none =>
      rw [hp, Option.none_or] at h
      cases hf : fst L X with
      | none => rw [hf] at h; cases h
      | some t =>
        rw [hf] at h
        injection h with h
        exact ⟨t, fst_mem hf, by rw [← h, beg_set (Nat.le_refl 1)], by rw [← h, List.length_set]⟩
theorem pikeL_beg (hC : CapsAt L) (k : Nat) : ∀ (j : Nat) (X : List Th) (b : List Int), pikeL L T R k j X = some b → ∃ t ∈ X, beg b = beg t.2 ∧ b.length = t.2.length := by
  induction k with
  | zero => intro _ _ _ h; cases h
  | succ k ih =>
    intro j X b h
    rw [pikeL] at h
    cases hp : pikeL L T R k (j + 1) (stepL L T R j X []) with
    | some c =>
      rw [hp, Option.some_or] at h
      injection h with h
      subst h
      obtain ⟨t, ht, h1, h2⟩ := ih _ _ _ hp
      obtain ⟨Z, z1, z2⟩ := stepL_new (L := L) (T := T) (R := R) hC j X []
      rw [z1, List.nil_append] at ht
      obtain ⟨u, hu, h3, h4⟩ := z2 t ht
      exact ⟨u, hu, by rw [h1, h3], by rw [h2, h4]⟩
    | none =>
      rw [hp, Option.none_or] at h
      cases hf : fst L X with
      | none => rw [hf] at h; cases h
      | some t =>
        rw [hf] at h
        injection h with h
        exact ⟨t, fst_mem hf, by rw [← h, beg_set (Nat.le_refl 1)], by rw [← h, List.length_set]⟩

/-- The first place, from one on, with an answer; k places are left. -/
def firstG (F : Nat → Nat → Option (List Int)) : Nat → Nat → Option (List Int)
  | 0, _ => none
  | k + 1, j => (F (k + 1) j).or (firstG F k (j + 1))
theorem firstS_G (k : Nat) : ∀ j, firstS L T R s0 f0 k j = firstG (fun k j => pike L T R k j (closeL L T j [] s0 (f0 j))) k j := by
  induction k with
  | zero => intro j; rfl
  | succ k ih => intro j; rw [firstS, firstG, ih]
theorem firstL_G (k : Nat) : ∀ j, firstL L T R s0 f0 k j = firstG (fun k j => pikeL L T R k j (closeL L T j [] s0 (f0 j))) k j := by
  induction k with
  | zero => intro j; rfl
  | succ k ih => intro j; rw [firstL, firstG, ih]
/-- What is found begins at a place from which on it is found as well; behind that place what is found begins later. -/
theorem firstG_on {F : Nat → Nat → Option (List Int)} (hF : ∀ k j b, F k j = some b → beg b = (j : Int)) (k : Nat) : ∀ j b, firstG F k j = some b → ∃ d, d < k ∧ beg b = ((j + d : Nat) : Int) ∧ ∀ e, e ≤ d → firstG F (k - e) (j + e) = some b := by
  induction k with
  | zero => intro j b h; cases h
  | succ k ih =>
    intro j b h
    have h' := h
    rw [firstG] at h
    cases hf : F (k + 1) j with
    | some c =>
      rw [hf, Option.some_or] at h
      injection h with h
      subst h
      refine ⟨0, by omega, by rw [hF _ _ _ hf]; simp, fun e he => ?_⟩
      obtain rfl : e = 0 := by omega
      exact h'
    | none =>
      rw [hf, Option.none_or] at h
      obtain ⟨d, h1, h2, h3⟩ := ih (j + 1) b h
      refine ⟨d + 1, by omega, by rw [h2]; congr 1; omega, fun e he => ?_⟩
      rcases Nat.eq_zero_or_pos e with h0 | h0
      · subst h0; exact h'
      · have := h3 (e - 1) (by omega)
        rw [show k - (e - 1) = k + 1 - e by omega, show j + 1 + (e - 1) = j + e by omega] at this
        exact this
theorem firstG_none {F : Nat → Nat → Option (List Int)} (k : Nat) : ∀ j, firstG F k j = none → ∀ e, firstG F (k - e) (j + e) = none := by
  induction k with
  | zero => intro j _ e; rw [Nat.zero_sub]; rfl
  | succ k ih =>
    intro j h e
    rcases Nat.eq_zero_or_pos e with h0 | h0
    · subst h0; exact h
    · rw [firstG, Option.or_eq_none_iff] at h
      have := ih (j + 1) h.2 (e - 1)
      rw [show k - (e - 1) = k + 1 - e by omega, show j + 1 + (e - 1) = j + e by omega] at this
      exact this
theorem firstG_le {F : Nat → Nat → Option (List Int)} (hF : ∀ k j b, F k j = some b → beg b = (j : Int)) {k j : Nat} {b : List Int} (h : firstG F k j = some b) : (j : Int) ≤ beg b := by
  obtain ⟨d, _, h2, _⟩ := firstG_on hF k j b h
  rw [h2]; omega
end
end Go.Proofs.YtbhcgjahlfpjoaaDoor
namespace Go.Proofs.YtbhcgjahlfpjoaaDoor

section
variable {L : List MI} {T R : Nat → MI → Bool} {s0 : Int} {f0 : Nat → List Int}
/-- Coming to an instruction takes no more steps than what is come to bears. -/
theorem comeS_le {Tj : MI → Bool} {place : Int} {c : Nat} (k : Nat) : ∀ (X : List Th) (pc : Int) (fit : List Int), fit.length = c → comeS L Tj place k X pc fit + (2 + c) * X.length ≤ 1 + (2 + c) * (comeL L Tj place k X pc fit).length := by
  induction k with
  | zero => intro X pc fit _; simp only [comeS, comeL]; omega
  | succ k ih =>
    intro X pc fit hc
    have hX1 : (2 + c) * (X ++ [(pc, fit)]).length = (2 + c) * X.length + (2 + c) := by simp [Nat.mul_add]
    by_cases hin : inT X pc = true
    · simp only [comeS, comeL, if_pos hin]; omega
    · simp only [comeS, comeL, if_neg hin]
      cases hx : L[pc.toNat]? with
      | none => simp only; omega
      | some x =>
        simp only
        by_cases h3 : x.op = 3
        · simp only [if_pos h3]
          have e1 := ih (X ++ [(pc, fit)]) x.out fit hc
          have e2 := ih (comeL L Tj place k (X ++ [(pc, fit)]) x.out fit) x.arg fit hc
          generalize comeL L Tj place k (X ++ [(pc, fit)]) x.out fit = R1 at e1 e2 ⊢
          omega
        · simp only [if_neg h3]
          by_cases h4 : x.op = 4
          · simp only [if_pos h4]
            have e1 := ih (X ++ [(pc, fit)]) x.out (fit.set x.arg.toNat place) (by rw [List.length_set]; exact hc)
            omega
          · simp only [if_neg h4]
            by_cases h5 : x.op = 5 ∧ Tj x = true
            · simp only [if_pos h5]
              have e1 := ih (X ++ [(pc, fit)]) x.out fit hc
              omega
            · simp only [if_neg h5]; omega
/-- All of a list are instructions, none twice: there are no more than these. -/
def Full (L : List MI) (X : List Th) : Prop := X.length + leftT L.length X = L.length
theorem Full.nil : Full L [] := by simp [Full, leftT, inT]
theorem Full.le {X : List Th} (h : Full L X) : X.length ≤ L.length := by unfold Full at h; omega
theorem comeL_full (hL : Leads3 L) {Tj : MI → Bool} {place : Int} (k : Nat) : ∀ (X : List Th) (pc : Int) (fit : List Int), 0 ≤ pc → pc < (L.length : Int) → Full L X → Full L (comeL L Tj place k X pc fit) := by
  induction k with
  | zero => intro X pc fit _ _ h; exact h
  | succ k ih =>
    intro X pc fit h0 hn hX
    by_cases hin : inT X pc = true
    · simp only [comeL, if_pos hin]; exact hX
    · have hin' : inT X pc = false := by simpa using hin
      have hx : L[pc.toNat]? = some L[pc.toNat] := List.getElem?_eq_getElem (by omega)
      generalize L[pc.toNat] = x at hx
      obtain ⟨l3, l2⟩ := hL x (List.mem_of_getElem? hx)
      have hl := leftT_add (n := L.length) fit h0 hn hin'
      have h1 : Full L (X ++ [(pc, fit)]) := by unfold Full at hX ⊢; rw [List.length_append]; simp only [List.length_cons, List.length_nil]; omega
      simp only [comeL, if_neg hin, hx]
      by_cases h3 : x.op = 3
      · simp only [if_pos h3]
        obtain ⟨a1, a2⟩ := l2 (by omega)
        obtain ⟨b1, b2⟩ := l3 h3
        exact ih _ _ _ b1 b2 (ih _ _ _ a1 a2 h1)
      · simp only [if_neg h3]
        by_cases h4 : x.op = 4
        · simp only [if_pos h4]
          obtain ⟨a1, a2⟩ := l2 (by omega)
          exact ih _ _ _ a1 a2 h1
        · simp only [if_neg h4]
          by_cases h5 : x.op = 5 ∧ Tj x = true
          · simp only [if_pos h5]
            obtain ⟨a1, a2⟩ := l2 (by omega)
            exact ih _ _ _ a1 a2 h1
          · simp only [if_neg h5]; exact h1
end
section
variable (L : List MI) (T R : Nat → MI → Bool) (s0 : Int) (f0 : Nat → List Int)
/-- The steps of a scan. -/
def scanN (lng : Bool) (j : Nat) : List Th → Option (List Int) → List Th → Nat
  | [], _, _ => 0
  | t :: X, b, Y =>
    if (∃ c, b = some c ∧ beg c < beg t.2) then 1 else
    if isM L t = true then
      let up := b = none ∨ (∃ c, b = some c ∧ beg t.2 < beg c) ∨ lng = false ∨ (∃ c, b = some c ∧ c[1]?.getD 0 < (j : Int))
      let b2 := if up then some (t.2.set 1 (j : Int)) else b
      1 + (if up then t.2.length else 0) + (if lng = false then 0 else scanN lng j X b2 Y)
    else 1 + (match L[t.1.toNat]? with
      | none => 0
      | some x => if x.op = 2 ∧ R j x = true then comeS L (T (j + 1)) ((j + 1 : Nat) : Int) (L.length + 1) Y x.out t.2 else 0) + scanN lng j X b (step1 L T R j Y t)
/-- The steps of a Find. -/
def findN (lng anch : Bool) (frm : Nat) : Nat → Nat → List Th → Option (List Int) → Nat
  | 0, _, _, _ => 0
  | k + 1, j, X, b =>
    let new := b = none ∧ (anch = false ∨ j = frm)
    let X1 := if new then closeL L T j X s0 (f0 j) else X
    (if new then (f0 j).length + comeS L (T j) (j : Int) (L.length + 1) X s0 (f0 j) else 0) +
    if X1 = [] ∧ (b ≠ none ∨ anch = true) then 0 else
    scanN L T R lng j X1 b [] + findN lng anch frm k (j + 1) (scanP L T R lng j X1 b []).2 (scanP L T R lng j X1 b []).1
end
end Go.Proofs.YtbhcgjahlfpjoaaDoor
namespace Go.Proofs.YtbhcgjahlfpjoaaDoor

section
variable {L : List MI} {T R : Nat → MI → Bool} {s0 : Int} {f0 : Nat → List Int}
theorem scanN_le {c : Nat} (lng : Bool) (j : Nat) (X : List Th) : ∀ (b : Option (List Int)) (Y : List Th), (∀ t ∈ X, t.2.length = c) → scanN L T R lng j X b Y + (2 + c) * Y.length ≤ (2 + c) * X.length + (2 + c) * (scanP L T R lng j X b Y).2.length := by
  induction X with
  | nil => intro b Y _; simp only [scanN, scanP, List.length_nil]; omega
  | cons t X ih =>
    intro b Y hc
    have ht := hc t List.mem_cons_self
    have hc' : ∀ u ∈ X, u.2.length = c := fun u hu => hc u (List.mem_cons_of_mem _ hu)
    have hX1 : (2 + c) * (t :: X).length = (2 + c) * X.length + (2 + c) := by simp [Nat.mul_add]
    rw [scanN, scanP, hX1]
    split
    · simp only; omega
    · split
      · simp only
        generalize (if (b = none ∨ (∃ c, b = some c ∧ beg t.2 < beg c) ∨ lng = false ∨ ∃ c, b = some c ∧ c[1]?.getD 0 < (j : Int)) then some (t.2.set 1 (j : Int)) else b) = b2
        have hup : (if (b = none ∨ (∃ c, b = some c ∧ beg t.2 < beg c) ∨ lng = false ∨ ∃ c, b = some c ∧ c[1]?.getD 0 < (j : Int)) then t.2.length else 0) ≤ c := by split <;> omega
        generalize (if (b = none ∨ (∃ c, b = some c ∧ beg t.2 < beg c) ∨ lng = false ∨ ∃ c, b = some c ∧ c[1]?.getD 0 < (j : Int)) then t.2.length else 0) = u at hup
        cases lng with
        | false => simp only [if_true]; omega
        | true =>
          simp only [Bool.true_eq_false, if_false]
          have := ih b2 Y hc'
          omega
      · have h1 := ih b (step1 L T R j Y t) hc'
        generalize scanN L T R lng j X b (step1 L T R j Y t) = q at h1 ⊢
        generalize (scanP L T R lng j X b (step1 L T R j Y t)).2.length = r at h1 ⊢
        unfold step1 at h1
        cases hx : L[t.1.toNat]? with
        | none => rw [hx] at h1; simp only at h1 ⊢; omega
        | some x =>
          rw [hx] at h1
          simp only at h1 ⊢
          by_cases hr : x.op = 2 ∧ R j x = true
          · rw [if_pos hr] at h1 ⊢
            have := comeS_le (L := L) (Tj := T (j + 1)) (place := ((j + 1 : Nat) : Int)) (L.length + 1) Y x.out t.2 ht
            unfold closeL at h1
            omega
          · rw [if_neg hr] at h1 ⊢; omega
theorem step1_full (hL : Leads3 L) {j : Nat} {Y : List Th} (t : Th) (h : Full L Y) : Full L (step1 L T R j Y t) := by
  unfold step1
  split
  · exact h
  · rename_i x hx
    split
    · rename_i hr
      obtain ⟨a1, a2⟩ := (hL x (List.mem_of_getElem? hx)).2 (.inl hr.1)
      exact comeL_full hL _ _ _ _ a1 a2 h
    · exact h
theorem scanP_full (hL : Leads3 L) (lng : Bool) (j : Nat) (X : List Th) : ∀ (b : Option (List Int)) (Y : List Th), Full L Y → Full L (scanP L T R lng j X b Y).2 := by
  induction X with
  | nil => intro b Y h; exact h
  | cons t X ih =>
    intro b Y h
    rw [scanP]
    split
    · exact h
    · split
      · simp only
        split
        · exact h
        · exact ih _ _ h
      · exact ih _ _ (step1_full hL t h)
/-- All fits have one length. -/
def FitL (c : Nat) (X : List Th) : Prop := ∀ t ∈ X, t.2.length = c
theorem closeL_fit (hC : CapsAt L) {c j : Nat} {X : List Th} (pc : Int) {fit : List Int} (h : FitL c X) (hf : fit.length = c) : FitL c (closeL L T j X pc fit) := by
  obtain ⟨Z, hZ, hz⟩ := closeL_new (L := L) (T := T) hC (j := j) (X := X) (pc := pc) (fit := fit)
  intro t ht
  rw [hZ] at ht
  rcases List.mem_append.1 ht with h1 | h1
  · exact h t h1
  · rw [(hz t h1).2, hf]
theorem scanP_fit (hC : CapsAt L) {c : Nat} (lng : Bool) (j : Nat) (X : List Th) : ∀ (b : Option (List Int)) (Y : List Th), FitL c X → FitL c Y → FitL c (scanP L T R lng j X b Y).2 := by
  induction X with
  | nil => intro b Y _ h; exact h
  | cons t X ih =>
    intro b Y hX h
    have hX' : FitL c X := fun u hu => hX u (List.mem_cons_of_mem _ hu)
    rw [scanP]
    split
    · exact h
    · split
      · simp only
        split
        · exact h
        · exact ih _ _ hX' h
      · refine ih _ _ hX' ?_
        obtain ⟨Z, hZ, hz⟩ := step1_new (L := L) (T := T) (R := R) hC j Y t
        intro u hu
        rw [hZ] at hu
        rcases List.mem_append.1 hu with h1 | h1
        · exact h u h1
        · rw [(hz u h1).2]; exact hX t List.mem_cons_self
/-- The bound: for each place 3n(c+2) + c + 1 steps. -/
theorem findN_le (hL : Leads3 L) (hC : CapsAt L) {c : Nat} (hf : ∀ j, (f0 j).length = c) (h0 : 0 ≤ s0) (hn : s0 < (L.length : Int)) (lng anch : Bool) (frm k : Nat) : ∀ (j : Nat) (X : List Th) (b : Option (List Int)), Full L X → FitL c X →
    findN L T R s0 f0 lng anch frm k j X b ≤ k * (3 * ((2 + c) * L.length) + c + 1) := by
  induction k with
  | zero => intro _ _ _ _ _; rw [findN]; omega
  | succ k ih =>
    intro j X b hX hF
    rw [findN]
    have key : ∀ X1 : List Th, Full L X1 → FitL c X1 → (if X1 = [] ∧ (b ≠ none ∨ anch = true) then 0 else scanN L T R lng j X1 b [] + findN L T R s0 f0 lng anch frm k (j + 1) (scanP L T R lng j X1 b []).2 (scanP L T R lng j X1 b []).1) ≤ 2 * ((2 + c) * L.length) + k * (3 * ((2 + c) * L.length) + c + 1) := by
      intro X1 h1 h2
      split
      · omega
      · have e1 := scanN_le (L := L) (T := T) (R := R) lng j X1 b [] h2
        have hY := scanP_full (T := T) (R := R) hL lng j X1 b [] Full.nil
        have e2 := ih (j + 1) (scanP L T R lng j X1 b []).2 (scanP L T R lng j X1 b []).1 hY (scanP_fit hC lng j X1 b [] h2 (fun _ h => by cases h))
        have e3 := Nat.mul_le_mul_left (2 + c) h1.le
        have e4 := Nat.mul_le_mul_left (2 + c) hY.le
        simp only [List.length_nil, Nat.mul_zero, Nat.add_zero] at e1
        omega
    have hsucc : (k + 1) * (3 * ((2 + c) * L.length) + c + 1) = k * (3 * ((2 + c) * L.length) + c + 1) + (3 * ((2 + c) * L.length) + c + 1) := Nat.succ_mul _ _
    rw [hsucc]
    by_cases hnew : b = none ∧ (anch = false ∨ j = frm)
    · rw [if_pos hnew, if_pos hnew, hf]
      have h1 : Full L (closeL L T j X s0 (f0 j)) := comeL_full hL _ _ _ _ h0 hn hX
      have h2 := closeL_fit (T := T) (j := j) hC s0 hF (hf j)
      have e1 := comeS_le (L := L) (Tj := T j) (place := (j : Int)) (L.length + 1) X s0 (f0 j) (hf j)
      have e2 := key _ h1 h2
      have e3 := Nat.mul_le_mul_left (2 + c) h1.le
      unfold closeL at e3
      omega
    · rw [if_neg hnew, if_neg hnew]
      have := key X hX hF
      omega
end
end Go.Proofs.YtbhcgjahlfpjoaaDoor
