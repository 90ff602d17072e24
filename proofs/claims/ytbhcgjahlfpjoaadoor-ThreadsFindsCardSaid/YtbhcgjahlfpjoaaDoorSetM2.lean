/- The reference's Norm: the mathematics. -/
import Derived.Test.YtbhcgjahlfpjoaaDoorSetM
namespace Go.Proofs.YtbhcgjahlfpjoaaDoor

def cutR (x : Rg) : Rg := (max x.1 0, min x.2 maxR)
/-- What a range has, cut to the runes. -/
def goodR (x : Rg) : Bool := decide ((cutR x).1 ≤ (cutR x).2)
def cuts (l : List Rg) : List Rg := (l.map cutR).filter fun x => decide (x.1 ≤ x.2)
theorem cuts_snoc (l : List Rg) (x : Rg) : cuts (l ++ [x]) = cuts l ++ (if goodR x = true then [cutR x] else []) := by
  unfold cuts goodR
  simp only [List.map_append, List.filter_append, List.map_cons, List.map_nil]
  congr 1
  by_cases h : (cutR x).1 ≤ (cutR x).2 <;> simp [h]
theorem cuts_in (l : List Rg) : ∀ p ∈ cuts l, 0 ≤ p.1 ∧ p.1 ≤ p.2 ∧ p.2 ≤ maxR := by
  intro p hp
  obtain ⟨h1, h2⟩ := List.mem_filter.1 hp
  obtain ⟨x, _, rfl⟩ := List.mem_map.1 h1
  have h3 : (cutR x).1 ≤ (cutR x).2 := by simpa using h2
  unfold cutR maxR at *
  dsimp only at *
  omega
theorem cuts_mem (l : List Rg) (c : Int) : mem (cuts l) c ↔ (0 ≤ c ∧ c ≤ maxR ∧ mem l c) := by
  constructor
  · rintro ⟨p, hp, h1, h2⟩
    obtain ⟨h3, _⟩ := List.mem_filter.1 hp
    obtain ⟨x, hx, rfl⟩ := List.mem_map.1 h3
    unfold cutR maxR at *
    dsimp only at *
    exact ⟨by omega, by omega, x, hx, by omega, by omega⟩
  · rintro ⟨h0, h1, x, hx, h2, h3⟩
    refine ⟨cutR x, List.mem_filter.2 ⟨List.mem_map.2 ⟨x, hx, rfl⟩, ?_⟩, ?_, ?_⟩
    · unfold cutR maxR at *
      simp
      omega
    all_goals (unfold cutR maxR at *; dsimp only; omega)

def Sorted1 (l : List Rg) : Prop := l.Pairwise fun p q => p.1 ≤ q.1
theorem sorted_le {l : List Rg} (h : Sorted1 l) {i j : Nat} {p q : Rg} (hi : l[i]? = some p) (hj : l[j]? = some q) (hij : i ≤ j) : p.1 ≤ q.1 := by
  rcases Nat.lt_or_eq_of_le hij with h1 | h1
  · obtain ⟨hi', rfl⟩ := List.getElem?_eq_some_iff.1 hi
    obtain ⟨hj', rfl⟩ := List.getElem?_eq_some_iff.1 hj
    exact (List.pairwise_iff_getElem.1 h) i j hi' hj' h1
  · subst h1; rw [hi] at hj; injection hj with hj; subst hj; exact Int.le_refl _
theorem insert_ok {s : List Rg} {x : Rg} {a : Nat} (h : Sorted1 s) (h1 : ∀ j q, a ≤ j → s[j]? = some q → x.1 < q.1) (h2 : a = 0 ∨ ∃ q, s[a - 1]? = some q ∧ q.1 ≤ x.1) (ha : a ≤ s.length) :
    Sorted1 (s.take a ++ x :: s.drop a) ∧ (s.take a ++ x :: s.drop a).Perm (s ++ [x]) := by
  constructor
  · refine List.pairwise_append.2 ⟨h.sublist (List.take_sublist _ _), List.pairwise_cons.2 ⟨fun q hq => ?_, h.sublist (List.drop_sublist _ _)⟩, fun p hp q hq => ?_⟩
    · obtain ⟨k, hk, rfl⟩ := List.getElem_of_mem hq
      rw [List.getElem_drop]
      exact Int.le_of_lt (h1 (a + k) _ (by omega) (List.getElem?_eq_getElem _))
    · obtain ⟨k, hk, rfl⟩ := List.getElem_of_mem hp
      rw [List.length_take] at hk
      have hpx : (s.take a)[k].1 ≤ x.1 := by
        rw [List.getElem_take]
        rcases h2 with rfl | ⟨q', hq', hle⟩
        · omega
        · exact Int.le_trans (sorted_le h (i := k) (j := a - 1) (List.getElem?_eq_getElem (by omega)) hq' (by omega)) hle
      cases hq with
      | head => exact hpx
      | tail _ hq =>
        obtain ⟨j, hj, rfl⟩ := List.getElem_of_mem hq
        rw [List.getElem_drop]
        exact Int.le_trans hpx (Int.le_of_lt (h1 (a + j) _ (by omega) (List.getElem?_eq_getElem _)))
  · have h3 : (s.take a ++ x :: s.drop a).Perm (x :: (s.take a ++ s.drop a)) := List.perm_middle
    rw [List.take_append_drop] at h3
    exact h3.trans (List.perm_append_singleton x s).symm

/-- A range is put behind: it goes on with the last one, or is one more. -/
def putM (out : List Rg) (x : Rg) : List Rg :=
  match out.getLast? with
  | some q => if x.1 ≤ q.2 + 1 then out.dropLast ++ [(q.1, max q.2 x.2)] else out ++ [x]
  | none => [x]
theorem putM_nil (x : Rg) : putM [] x = [x] := rfl
theorem putM_join {l : List Rg} {q x : Rg} (h : x.1 ≤ q.2 + 1) : putM (l ++ [q]) x = l ++ [(q.1, max q.2 x.2)] := by
  unfold putM
  simp only [List.getLast?_append, List.getLast?_singleton, Option.some_or, List.dropLast_concat]
  rw [if_pos h]
theorem putM_more {l : List Rg} {q x : Rg} (h : ¬ x.1 ≤ q.2 + 1) : putM (l ++ [q]) x = l ++ [q] ++ [x] := by
  unfold putM
  simp only [List.getLast?_append, List.getLast?_singleton, Option.some_or, List.dropLast_concat]
  rw [if_neg h]
theorem putM_ok {out : List Rg} {x : Rg} (h : Canon out) (hb : ∀ p ∈ out, p.1 ≤ x.1) (hx : 0 ≤ x.1 ∧ x.1 ≤ x.2 ∧ x.2 ≤ maxR) :
    Canon (putM out x) ∧ (∀ p ∈ putM out x, p.1 ≤ x.1) ∧ ∀ c, mem (putM out x) c ↔ mem out c ∨ (x.1 ≤ c ∧ c ≤ x.2) := by
  rcases List.eq_nil_or_concat out with rfl | ⟨l, q, rfl⟩
  · rw [putM_nil]
    exact ⟨canon_append (l := []) canon_nil hx (fun _ h => by cases h), fun p hp => by obtain rfl := List.mem_singleton.1 hp; exact Int.le_refl _, fun c => by rw [mem_one]; simp [mem_nil]⟩
  · rw [List.concat_eq_append] at *
    obtain ⟨c1, c2, c3⟩ := canon_init h
    have hq := hb q (by simp)
    by_cases he : x.1 ≤ q.2 + 1
    · rw [putM_join he]
      refine ⟨canon_append c1 ⟨c2.1, by dsimp only; omega, by dsimp only; omega⟩ c3, fun p hp => ?_, fun c => ?_⟩
      · rcases List.mem_append.1 hp with h3 | h3
        · exact hb p (by simp [h3])
        · obtain rfl := List.mem_singleton.1 h3; exact hq
      · rw [mem_append, mem_append, mem_one, mem_one]
        dsimp only
        constructor
        · rintro (h3 | h3)
          · exact .inl (.inl h3)
          · by_cases h4 : c ≤ q.2
            · exact .inl (.inr ⟨h3.1, h4⟩)
            · exact .inr (by omega)
        · rintro ((h3 | h3) | h3)
          · exact .inl h3
          · exact .inr (by omega)
          · exact .inr (by omega)
    · rw [putM_more he]
      refine ⟨canon_append h hx fun p hp => ?_, fun p hp => ?_, fun c => by rw [mem_append, mem_one]⟩
      · rcases List.mem_append.1 hp with h3 | h3
        · have := c3 p h3; omega
        · obtain rfl := List.mem_singleton.1 h3; omega
      · rcases List.mem_append.1 hp with h3 | h3
        · exact hb p h3
        · obtain rfl := List.mem_singleton.1 h3; exact Int.le_refl _
theorem putM_length (out : List Rg) (x : Rg) : (putM out x).length ≤ out.length + 1 := by
  rcases List.eq_nil_or_concat out with rfl | ⟨l, q, rfl⟩
  · simp [putM]
  · rw [List.concat_eq_append]
    by_cases h : x.1 ≤ q.2 + 1
    · rw [putM_join h]; simp
    · rw [putM_more h]; simp

def mergeF (s : List Rg) : List Rg := s.foldl putM []
theorem merge_snoc (s : List Rg) (x : Rg) : mergeF (s ++ [x]) = putM (mergeF s) x := by simp [mergeF]
theorem merge_take (s : List Rg) (k : Nat) (x : Rg) (h : s[k]? = some x) : mergeF (s.take (k + 1)) = putM (mergeF (s.take k)) x := by
  rw [List.take_add_one, h]
  exact merge_snoc _ _
theorem merge_ok : ∀ (s : List Rg) (out : List Rg), Sorted1 s → (∀ p ∈ s, 0 ≤ p.1 ∧ p.1 ≤ p.2 ∧ p.2 ≤ maxR) → Canon out → (∀ p ∈ out, ∀ q ∈ s, p.1 ≤ q.1) →
    Canon (s.foldl putM out) ∧ ∀ c, mem (s.foldl putM out) c ↔ mem out c ∨ mem s c
  | [], out, _, _, h, _ => ⟨h, fun c => by simp [mem_nil]⟩
  | x :: r, out, hs, hi, h, hb => by
    have hs' := List.pairwise_cons.1 hs
    obtain ⟨a, b, d⟩ := putM_ok h (fun p hp => hb p hp x (.head _)) (hi x (.head _))
    obtain ⟨e, f⟩ := merge_ok r (putM out x) hs'.2 (fun p hp => hi p (.tail _ hp)) a fun p hp q hq => Int.le_trans (b p hp) (hs'.1 q hq)
    refine ⟨e, fun c => ?_⟩
    rw [List.foldl_cons, f, d, mem_cons, or_assoc]
theorem mem_perm {l r : List Rg} (h : l.Perm r) (c : Int) : mem l c ↔ mem r c := by
  unfold mem
  constructor
  · rintro ⟨p, hp, h1⟩; exact ⟨p, h.mem_iff.1 hp, h1⟩
  · rintro ⟨p, hp, h1⟩; exact ⟨p, h.mem_iff.2 hp, h1⟩
/-- The reference's Norm: of the cut ranges, sorted in whatever way, put together. -/
theorem merge_setOf {l s : List Rg} (hp : s.Perm (cuts l)) (hs : Sorted1 s) : SetOf (mem l) (mergeF s) := by
  obtain ⟨a, b⟩ := merge_ok s [] hs (fun p h => cuts_in l p (hp.mem_iff.1 h)) canon_nil (fun _ h => by cases h)
  refine ⟨a, fun c => ?_⟩
  rw [show mergeF s = s.foldl putM [] from rfl, b, mem_perm hp, cuts_mem]
  simp [mem_nil]
end Go.Proofs.YtbhcgjahlfpjoaaDoor
