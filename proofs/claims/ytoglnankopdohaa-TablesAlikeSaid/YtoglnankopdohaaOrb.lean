/- Orbits: what they are, and that the stretches lead to them. -/
import Derived.Test.YtoglnankopdohaaLawS0
namespace Go.Proofs.Ytoglnankopdohaa
open Go.RowKit

/-- The stretches: great letters, and how far above them the small ones are. -/
def ST : List (Int × Int × Int) := [(65, 90, 32), (192, 214, 32), (216, 222, 32), (913, 929, 32), (931, 937, 32), (1040, 1071, 32), (376, 376, -121), (7838, 7838, -7615), (75, 75, 8415), (83, 83, 300), (197, 197, 8294), (924, 924, -743), (931, 931, 31)]
/-- z stands beside y by s. -/
def Nb (s : Int × Int × Int) (y z : Int) : Prop := (s.1 ≤ y ∧ y ≤ s.2.1 ∧ z = y + s.2.2) ∨ (s.1 ≤ y - s.2.2 ∧ y - s.2.2 ≤ s.2.1 ∧ z = y - s.2.2)
instance (s : Int × Int × Int) (y z : Int) : Decidable (Nb s y z) := by unfold Nb; exact inferInstance
/-- Great letters whose small ones are 32 above, and that have no third. -/
def GrP (c : Int) : Prop := ((65 ≤ c ∧ c ≤ 90) ∨ (192 ≤ c ∧ c ≤ 214) ∨ (216 ≤ c ∧ c ≤ 222) ∨ (913 ≤ c ∧ c ≤ 929) ∨ (932 ≤ c ∧ c ≤ 937) ∨ (1040 ≤ c ∧ c ≤ 1071)) ∧ c ≠ 75 ∧ c ≠ 83 ∧ c ≠ 197 ∧ c ≠ 924
instance (c : Int) : Decidable (GrP c) := by unfold GrP; exact inferInstance
def G3 : List (List Int) := [[75, 107, 8490], [83, 115, 383], [197, 229, 8491], [181, 924, 956], [931, 962, 963], [223, 7838], [255, 376]]
def orbR (c : Int) : List Int :=
  if c ∈ [75, 107, 8490] then [75, 107, 8490]
  else if c ∈ [83, 115, 383] then [83, 115, 383]
  else if c ∈ [197, 229, 8491] then [197, 229, 8491]
  else if c ∈ [181, 924, 956] then [181, 924, 956]
  else if c ∈ [931, 962, 963] then [931, 962, 963]
  else if c ∈ [223, 7838] then [223, 7838]
  else if c ∈ [255, 376] then [255, 376]
  else if GrP c then [c, c + 32]
  else if 32 ≤ c ∧ GrP (c - 32) then [c - 32, c]
  else [c]
/-- The cases of an orbit. -/
theorem orb_cases (c : Int) : (∃ g ∈ G3, c ∈ g ∧ orbR c = g) ∨
    ((∀ g ∈ G3, c ∉ g) ∧ ((GrP c ∧ orbR c = [c, c + 32]) ∨ (¬ GrP c ∧ 32 ≤ c ∧ GrP (c - 32) ∧ orbR c = [c - 32, c]) ∨ (¬ GrP c ∧ ¬ (32 ≤ c ∧ GrP (c - 32)) ∧ orbR c = [c]))) := by
  unfold orbR
  split
  · exact .inl ⟨_, by simp [G3], ‹_›, rfl⟩
  split
  · exact .inl ⟨_, by simp [G3], ‹_›, rfl⟩
  split
  · exact .inl ⟨_, by simp [G3], ‹_›, rfl⟩
  split
  · exact .inl ⟨_, by simp [G3], ‹_›, rfl⟩
  split
  · exact .inl ⟨_, by simp [G3], ‹_›, rfl⟩
  split
  · exact .inl ⟨_, by simp [G3], ‹_›, rfl⟩
  split
  · exact .inl ⟨_, by simp [G3], ‹_›, rfl⟩
  rename_i h1 h2 h3 h4 h5 h6 h7
  refine .inr ⟨?_, ?_⟩
  · intro g hg
    simp only [G3, List.mem_cons, List.not_mem_nil, or_false] at hg
    rcases hg with rfl | rfl | rfl | rfl | rfl | rfl | rfl <;> assumption
  · split
    · exact .inl ⟨‹_›, rfl⟩
    split
    · rename_i h8 h9
      exact .inr (.inl ⟨h8, h9.1, h9.2, rfl⟩)
    · rename_i h8 h9
      exact .inr (.inr ⟨h8, h9, rfl⟩)
theorem g3_not {c : Int} (h : ∀ g ∈ G3, c ∉ g) : c ≠ 75 ∧ c ≠ 107 ∧ c ≠ 8490 ∧ c ≠ 83 ∧ c ≠ 115 ∧ c ≠ 383 ∧ c ≠ 197 ∧ c ≠ 229 ∧ c ≠ 8491 ∧ c ≠ 181 ∧ c ≠ 924 ∧ c ≠ 956 ∧ c ≠ 931 ∧ c ≠ 962 ∧ c ≠ 963 ∧ c ≠ 223 ∧ c ≠ 7838 ∧ c ≠ 255 ∧ c ≠ 376 := by
  have h1 := h [75, 107, 8490] (by simp [G3])
  have h2 := h [83, 115, 383] (by simp [G3])
  have h3 := h [197, 229, 8491] (by simp [G3])
  have h4 := h [181, 924, 956] (by simp [G3])
  have h5 := h [931, 962, 963] (by simp [G3])
  have h6 := h [223, 7838] (by simp [G3])
  have h7 := h [255, 376] (by simp [G3])
  simp only [List.mem_cons, List.not_mem_nil, or_false, not_or] at h1 h2 h3 h4 h5 h6 h7
  omega
theorem g3_closed : ∀ g ∈ G3, ∀ y ∈ g, ∀ s ∈ ST, ((s.1 ≤ y ∧ y ≤ s.2.1) → y + s.2.2 ∈ g) ∧ ((s.1 ≤ y - s.2.2 ∧ y - s.2.2 ≤ s.2.1) → y - s.2.2 ∈ g) := by decide
theorem orb_closed {c y z : Int} {s : Int × Int × Int} (hy : y ∈ orbR c) (hs : s ∈ ST) (h : Nb s y z) : z ∈ orbR c := by
  rcases orb_cases c with ⟨g, hg, _, he⟩ | ⟨hn, h3⟩
  · rw [he] at hy ⊢
    obtain ⟨a, b⟩ := g3_closed g hg y hy s hs
    rcases h with ⟨h1, h2, rfl⟩ | ⟨h1, h2, rfl⟩
    · exact a ⟨h1, h2⟩
    · exact b ⟨h1, h2⟩
  · have hn := g3_not hn
    rcases h3 with ⟨hg, he⟩ | ⟨hg0, hg1, hg, he⟩ | ⟨hg0, hg1, he⟩
    · rw [he] at hy ⊢
      unfold GrP at hg
      simp only [ST, List.mem_cons, List.not_mem_nil, or_false] at hs hy ⊢
      rcases hs with rfl | rfl | rfl | rfl | rfl | rfl | rfl | rfl | rfl | rfl | rfl | rfl | rfl <;> (simp only [Nb] at h; omega)
    · rw [he] at hy ⊢
      unfold GrP at hg hg0
      simp only [ST, List.mem_cons, List.not_mem_nil, or_false] at hs hy ⊢
      rcases hs with rfl | rfl | rfl | rfl | rfl | rfl | rfl | rfl | rfl | rfl | rfl | rfl | rfl <;> (simp only [Nb] at h; omega)
    · rw [he] at hy ⊢
      unfold GrP at hg1 hg0
      simp only [ST, List.mem_cons, List.not_mem_nil, or_false] at hs hy ⊢
      rcases hs with rfl | rfl | rfl | rfl | rfl | rfl | rfl | rfl | rfl | rfl | rfl | rfl | rfl <;> (simp only [Nb] at h; omega)
theorem orb_self (c : Int) : c ∈ orbR c := by
  rcases orb_cases c with ⟨g, _, hc, he⟩ | ⟨_, ⟨_, he⟩ | ⟨_, _, _, he⟩ | ⟨_, _, he⟩⟩ <;> rw [he]
  · exact hc
  all_goals simp
theorem orb_sorted (c : Int) : (orbR c).Pairwise (· < ·) := by
  have hG : ∀ g ∈ G3, g.Pairwise (· < ·) := by decide
  rcases orb_cases c with ⟨g, hg, hc, he⟩ | ⟨_, ⟨_, he⟩ | ⟨_, _, _, he⟩ | ⟨_, _, he⟩⟩ <;> rw [he]
  · exact hG g hg
  all_goals simp
  all_goals omega
theorem orb_bound {c y : Int} (h0 : 0 ≤ c) (h1 : c ≤ 1114111) (hy : y ∈ orbR c) : 0 ≤ y ∧ y ≤ 1114111 := by
  have hG : ∀ g ∈ G3, ∀ y ∈ g, 0 ≤ y ∧ y ≤ 1114111 := by decide
  rcases orb_cases c with ⟨g, hg, hc, he⟩ | ⟨_, ⟨hg, he⟩ | ⟨_, _, _, he⟩ | ⟨_, _, he⟩⟩ <;> rw [he] at hy
  · exact hG g hg y hy
  all_goals (try unfold GrP at hg); simp only [List.mem_cons, List.not_mem_nil, or_false] at hy; omega
theorem orb_len (c : Int) : (orbR c).length ≤ 3 := by
  have hG : ∀ g ∈ G3, g.length ≤ 3 := by decide
  rcases orb_cases c with ⟨g, hg, hc, he⟩ | ⟨_, ⟨hg, he⟩ | ⟨_, _, _, he⟩ | ⟨_, _, he⟩⟩ <;> rw [he]
  · exact hG g hg
  all_goals simp
def nbL (y : Int) : List Int := ST.flatMap fun s => (if s.1 ≤ y ∧ y ≤ s.2.1 then [y + s.2.2] else []) ++ (if s.1 ≤ y - s.2.2 ∧ y - s.2.2 ≤ s.2.1 then [y - s.2.2] else [])
theorem nbL_mem {y z : Int} (h : z ∈ nbL y) : ∃ s ∈ ST, Nb s y z := by
  unfold nbL at h
  obtain ⟨s, hs, h⟩ := List.mem_flatMap.1 h
  refine ⟨s, hs, ?_⟩
  rcases List.mem_append.1 h with h | h
  · split at h
    · rename_i h1; rw [List.mem_singleton] at h; exact .inl ⟨h1.1, h1.2, h⟩
    · cases h
  · split at h
    · rename_i h1; rw [List.mem_singleton] at h; exact .inr ⟨h1.1, h1.2, h⟩
    · cases h
theorem g3_reach : ∀ g ∈ G3, ∀ y ∈ g, ∀ z ∈ g, z = y ∨ z ∈ nbL y ∨ ∃ u ∈ nbL y, z ∈ nbL u := by decide
/-- What holds c and all that stands beside what it holds holds c's orbit. -/
theorem orb_least {c : Int} {l : List Int} (hc : c ∈ l) (hl : ∀ y ∈ l, ∀ s ∈ ST, ∀ z, Nb s y z → z ∈ l) : ∀ z ∈ orbR c, z ∈ l := by
  intro z hz
  have hb : ∀ y ∈ l, ∀ z ∈ nbL y, z ∈ l := fun y hy z hz => by
    obtain ⟨s, hs, h⟩ := nbL_mem hz
    exact hl y hy s hs z h
  rcases orb_cases c with ⟨g, hg, hcg, he⟩ | ⟨hn, ⟨hg, he⟩ | ⟨_, _, hg, he⟩ | ⟨_, _, he⟩⟩ <;> rw [he] at hz
  · rcases g3_reach g hg c hcg z hz with rfl | h | ⟨u, hu, h⟩
    · exact hc
    · exact hb c hc z h
    · exact hb u (hb c hc u hu) z h
  · simp only [List.mem_cons, List.not_mem_nil, or_false] at hz
    rcases hz with rfl | rfl
    · exact hc
    · obtain ⟨h1 | h1 | h1 | h1 | h1 | h1, _⟩ := hg
      · exact hl c hc (65, 90, 32) (by simp [ST]) _ (.inl ⟨h1.1, h1.2, rfl⟩)
      · exact hl c hc (192, 214, 32) (by simp [ST]) _ (.inl ⟨h1.1, h1.2, rfl⟩)
      · exact hl c hc (216, 222, 32) (by simp [ST]) _ (.inl ⟨h1.1, h1.2, rfl⟩)
      · exact hl c hc (913, 929, 32) (by simp [ST]) _ (.inl ⟨h1.1, h1.2, rfl⟩)
      · exact hl c hc (931, 937, 32) (by simp [ST]) _ (.inl ⟨by show (931 : Int) ≤ c; omega, h1.2, rfl⟩)
      · exact hl c hc (1040, 1071, 32) (by simp [ST]) _ (.inl ⟨h1.1, h1.2, rfl⟩)
  · simp only [List.mem_cons, List.not_mem_nil, or_false] at hz
    rcases hz with rfl | rfl
    · obtain ⟨h1 | h1 | h1 | h1 | h1 | h1, _⟩ := hg
      · exact hl c hc (65, 90, 32) (by simp [ST]) _ (.inr ⟨h1.1, h1.2, rfl⟩)
      · exact hl c hc (192, 214, 32) (by simp [ST]) _ (.inr ⟨h1.1, h1.2, rfl⟩)
      · exact hl c hc (216, 222, 32) (by simp [ST]) _ (.inr ⟨h1.1, h1.2, rfl⟩)
      · exact hl c hc (913, 929, 32) (by simp [ST]) _ (.inr ⟨h1.1, h1.2, rfl⟩)
      · exact hl c hc (931, 937, 32) (by simp [ST]) _ (.inr ⟨by show (931 : Int) ≤ c - 32; omega, h1.2, rfl⟩)
      · exact hl c hc (1040, 1071, 32) (by simp [ST]) _ (.inr ⟨h1.1, h1.2, rfl⟩)
    · exact hc
  · simp only [List.mem_cons, List.not_mem_nil, or_false] at hz
    rw [hz]; exact hc
/-- Two rising lists with the same members are one. -/
theorem rising_unique : ∀ {l r : List Int}, l.Pairwise (· < ·) → r.Pairwise (· < ·) → (∀ x, x ∈ l ↔ x ∈ r) → l = r
  | [], [], _, _, _ => rfl
  | [], b :: r, _, _, h => absurd ((h b).2 (.head _)) (by simp)
  | a :: l, [], _, _, h => absurd ((h a).1 (.head _)) (by simp)
  | a :: l, b :: r, h1, h2, h => by
    rw [List.pairwise_cons] at h1 h2
    have hab : a = b := by
      rcases List.mem_cons.1 ((h a).1 (.head _)) with e | e
      · exact e
      · rcases List.mem_cons.1 ((h b).2 (.head _)) with e' | e'
        · exact e'.symm
        · have := h1.1 b e'; have := h2.1 a e; omega
    subst hab
    rw [rising_unique h1.2 h2.2 fun x => ?_]
    constructor
    · intro hx
      rcases List.mem_cons.1 ((h x).1 (.tail _ hx)) with e | e
      · have := h1.1 x hx; omega
      · exact e
    · intro hx
      rcases List.mem_cons.1 ((h x).2 (.tail _ hx)) with e | e
      · have := h2.1 x hx; omega
      · exact e
/-- One more, unless it is there. -/
def addF (l : List Int) (x : Int) : List Int := if x ∈ l then l else l ++ [x]
theorem addF_sub {l : List Int} {x y : Int} (h : y ∈ l) : y ∈ addF l x := by unfold addF; split <;> simp [h]
theorem addF_in (l : List Int) (x : Int) : x ∈ addF l x := by unfold addF; split <;> simp_all
theorem addF_nodup {l : List Int} {x : Int} (h : l.Nodup) : (addF l x).Nodup := by
  unfold addF
  split
  · exact h
  · rename_i hx
    rw [List.nodup_append]
    exact ⟨h, by simp, fun a ha b hb e => by rw [List.mem_singleton] at hb; subst hb; subst e; exact hx ha⟩
theorem addF_get {l : List Int} {x y : Int} {i : Nat} (h : l[i]? = some y) : (addF l x)[i]? = some y := by
  unfold addF
  split
  · exact h
  · have hi : i < l.length := by
      rcases Nat.lt_or_ge i l.length with h' | h'
      · exact h'
      · rw [List.getElem?_eq_none h'] at h; cases h
    rw [List.getElem?_append_left hi, h]
theorem addF_only {l m : List Int} {x : Int} (h : ∀ y ∈ l, y ∈ m) (hx : x ∈ m) : ∀ y ∈ addF l x, y ∈ m := by
  unfold addF
  split
  · exact h
  · intro y hy
    rcases List.mem_append.1 hy with h1 | h1
    · exact h y h1
    · rw [List.mem_singleton] at h1; rw [h1]; exact hx
/-- Distinct, and all of them among others: no more than those. -/
theorem nodup_len : ∀ {l m : List Int}, l.Nodup → (∀ x ∈ l, x ∈ m) → l.length ≤ m.length
  | [], m, _, _ => Nat.zero_le _
  | a :: l, m, h, hm => by
    rw [List.nodup_cons] at h
    have ha := hm a (.head _)
    have h1 := nodup_len (m := m.erase a) h.2 fun x hx => (List.mem_erase_of_ne (fun e => h.1 (by rw [← e]; exact hx))).2 (hm x (.tail _ hx))
    rw [List.length_erase_of_mem ha] at h1
    have : 0 < m.length := List.length_pos_of_mem ha
    simp only [List.length_cons]; omega
/-- What the loop of Orbit holds. -/
structure OrbI (c : Int) (l : List Int) (i : Nat) : Prop where
  self : c ∈ l
  nodup : l.Nodup
  only : ∀ y ∈ l, y ∈ orbR c
  le : i ≤ l.length
  done : ∀ j, j < i → ∀ y, l[j]? = some y → ∀ s ∈ ST, ∀ z, Nb s y z → z ∈ l
theorem OrbI.len {c : Int} {l : List Int} {i : Nat} (h : OrbI c l i) : l.length ≤ 3 := Nat.le_trans (nodup_len h.nodup h.only) (orb_len c)
theorem OrbI.start (c : Int) : OrbI c [c] 0 := ⟨.head _, by simp, fun y hy => by rw [List.mem_singleton] at hy; rw [hy]; exact orb_self c, Nat.zero_le _, fun j hj => by omega⟩
theorem addF_back {l : List Int} {x : Int} {j : Nat} (hj : j < l.length) : (addF l x)[j]? = l[j]? := by
  rw [addF_get (List.getElem?_eq_getElem hj), List.getElem?_eq_getElem hj]
theorem addF_len (l : List Int) (x : Int) : l.length ≤ (addF l x).length := by unfold addF; split <;> simp
theorem OrbI.add {c x y : Int} {l : List Int} {i : Nat} (h : OrbI c l i) (hy : y ∈ l) {s : Int × Int × Int} (hs : s ∈ ST) (hn : Nb s y x) : OrbI c (addF l x) i :=
  ⟨addF_sub h.self, addF_nodup h.nodup, addF_only h.only (orb_closed (h.only y hy) hs hn), Nat.le_trans h.le (addF_len l x), fun j hj u hu s hs z hz => by
    rw [addF_back (by have := h.le; omega)] at hu
    exact addF_sub (h.done j hj u hu s hs z hz)⟩
/-- What the round of Orbit holds: x stands at i, and what stands beside it by the first k stretches is there. -/
structure OrbK (c : Int) (l : List Int) (i k : Nat) (x : Int) : Prop where
  inv : OrbI c l i
  at_ : l[i]? = some x
  inn : ∀ j, j < k → ∀ s, ST[j]? = some s → ∀ z, Nb s x z → z ∈ l
def st1 (s : Int × Int × Int) (x : Int) (l : List Int) : List Int := if s.1 ≤ x ∧ x ≤ s.2.1 then addF l (x + s.2.2) else l
def st2 (s : Int × Int × Int) (x : Int) (l : List Int) : List Int := if s.1 ≤ x - s.2.2 ∧ x - s.2.2 ≤ s.2.1 then addF l (x - s.2.2) else l
theorem OrbK.add {c x y : Int} {l : List Int} {i k : Nat} (h : OrbK c l i k x) {s : Int × Int × Int} (hs : s ∈ ST) (hn : Nb s x y) : OrbK c (addF l y) i k x :=
  ⟨h.inv.add (List.mem_of_getElem? h.at_) hs hn, addF_get h.at_, fun j hj s hs z hz => addF_sub (h.inn j hj s hs z hz)⟩
theorem OrbK.st1 {c x : Int} {l : List Int} {i k : Nat} (h : OrbK c l i k x) {s : Int × Int × Int} (hs : s ∈ ST) : OrbK c (st1 s x l) i k x := by
  unfold Go.Proofs.Ytoglnankopdohaa.st1
  split
  · rename_i hc; exact h.add hs (.inl ⟨hc.1, hc.2, rfl⟩)
  · exact h
theorem OrbK.st2 {c x : Int} {l : List Int} {i k : Nat} (h : OrbK c l i k x) {s : Int × Int × Int} (hs : s ∈ ST) : OrbK c (st2 s x l) i k x := by
  unfold Go.Proofs.Ytoglnankopdohaa.st2
  split
  · rename_i hc; exact h.add hs (.inr ⟨hc.1, hc.2, rfl⟩)
  · exact h
theorem OrbK.next {c x : Int} {l : List Int} {i k : Nat} (h : OrbK c l i k x) {s : Int × Int × Int} (hk : ST[k]? = some s) : OrbK c (Go.Proofs.Ytoglnankopdohaa.st2 s x (Go.Proofs.Ytoglnankopdohaa.st1 s x l)) i (k + 1) x := by
  have hs : s ∈ ST := List.mem_of_getElem? hk
  have h2 := (h.st1 hs).st2 hs
  refine ⟨h2.inv, h2.at_, fun j hj s' hs' z hz => ?_⟩
  rcases Nat.lt_or_eq_of_le (Nat.le_of_lt_succ hj) with e | e
  · exact h2.inn j e s' hs' z hz
  · subst e
    rw [hk] at hs'
    injection hs' with hs'
    subst hs'
    rcases hz with ⟨a, b, rfl⟩ | ⟨a, b, rfl⟩
    · have h3 : x + s.2.2 ∈ Go.Proofs.Ytoglnankopdohaa.st1 s x l := by unfold Go.Proofs.Ytoglnankopdohaa.st1; rw [if_pos ⟨a, b⟩]; exact addF_in _ _
      unfold Go.Proofs.Ytoglnankopdohaa.st2
      split
      · exact addF_sub h3
      · exact h3
    · unfold Go.Proofs.Ytoglnankopdohaa.st2
      rw [if_pos ⟨a, b⟩]
      exact addF_in _ _
theorem OrbI.enter {c x : Int} {l : List Int} {i : Nat} (h : OrbI c l i) (hx : l[i]? = some x) : OrbK c l i 0 x := ⟨h, hx, fun j hj => by omega⟩
theorem OrbK.leave {c x : Int} {l : List Int} {i : Nat} (h : OrbK c l i 13 x) : OrbI c l (i + 1) := by
  have hi : i < l.length := by
    rcases Nat.lt_or_ge i l.length with h' | h'
    · exact h'
    · have := h.at_; rw [List.getElem?_eq_none h'] at this; cases this
  refine ⟨h.inv.self, h.inv.nodup, h.inv.only, hi, fun j hj y hy s hs z hz => ?_⟩
  rcases Nat.lt_or_eq_of_le (Nat.le_of_lt_succ hj) with e | e
  · exact h.inv.done j e y hy s hs z hz
  · subst e
    rw [h.at_] at hy
    injection hy with hy
    subst hy
    obtain ⟨k, hk, rfl⟩ := List.getElem_of_mem hs
    exact h.inn k hk _ (List.getElem?_eq_getElem hk) z hz
theorem OrbI.all {c : Int} {l : List Int} (h : OrbI c l l.length) : ∀ z, z ∈ l ↔ z ∈ orbR c := fun z =>
  ⟨h.only z, orb_least h.self (fun y hy s hs z hz => by
    obtain ⟨j, hj, rfl⟩ := List.getElem_of_mem hy
    exact h.done j hj _ (List.getElem?_eq_getElem hj) s hs z hz) z⟩
/-- Sorted, it is the orbit. -/
theorem OrbI.sorted {c : Int} {l r : List Int} (h : OrbI c l l.length) (hp : l.Perm r) (hs : r.Pairwise (· ≤ ·)) : r = orbR c := by
  refine rising_unique ?_ (orb_sorted c) fun x => by rw [← hp.mem_iff, h.all]
  have hn : r.Pairwise (· ≠ ·) := hp.nodup_iff.1 h.nodup
  exact (hs.and hn).imp fun h => by omega
/-- The orbit of any number. -/
def orbL (c : Int) : List Int := if 0 ≤ c ∧ c ≤ 1114111 then orbR c else []
end Go.Proofs.Ytoglnankopdohaa
