/- slices.Compact of runes: what it leaves of a rising list. -/
import Derived.Test.YtbhcgjahlfpjoaaRs1
import Derived.Test.YtbhcgjahlfpjoaaSr0
import Derived.Test.YtbhcgjahlfpjoaaShelfS
namespace Go.Proofs.Ytbhcgjahlfpjoaa
open Go.RowKit Go.Sort Go.Lib

/-- What Compact leaves of a rising row: rises strictly, with the same members. -/
theorem compact_plain (d : Array Int) (hs : ∀ i j, i < j → j < d.size → d[i]! ≤ d[j]!) : ∀ m, m ≤ d.size →
    (compactUpTo d m).Pairwise (· < ·) ∧ ∀ v, v ∈ compactUpTo d m ↔ ∃ j, j < m ∧ d[j]! = v := by
  intro m
  induction m with
  | zero => intro _; exact ⟨by simp [compactUpTo], fun v => by simp [compactUpTo]⟩
  | succ m ih =>
    intro hm
    obtain ⟨i1, i2⟩ := ih (by omega)
    rw [compactUpTo_succ]
    by_cases hk : keeps d m = true
    · rw [if_pos hk]
      refine ⟨?_, fun v => ?_⟩
      · rw [List.pairwise_append]
        refine ⟨i1, by simp, fun a ha b hb => ?_⟩
        obtain rfl := List.mem_singleton.1 hb
        obtain ⟨j, hj, rfl⟩ := (i2 a).1 ha
        unfold keeps at hk
        have hk := of_decide_eq_true hk
        have h0 : d[m]! ≠ d[m - 1]! := by rcases hk with h | h; omega; exact h
        have h1 := hs (m - 1) m (by omega) (by omega)
        rcases Nat.lt_or_ge j (m - 1) with h | h
        · have := hs j (m - 1) h (by omega); omega
        · obtain rfl : j = m - 1 := by omega
          omega
      · rw [List.mem_append, i2, List.mem_singleton]
        constructor
        · rintro (⟨j, hj, rfl⟩ | rfl)
          · exact ⟨j, by omega, rfl⟩
          · exact ⟨m, by omega, rfl⟩
        · rintro ⟨j, hj, rfl⟩
          rcases Nat.lt_or_ge j m with h | h
          · exact .inl ⟨j, h, rfl⟩
          · obtain rfl : j = m := by omega
            exact .inr rfl
    · rw [if_neg hk, List.append_nil]
      refine ⟨i1, fun v => ?_⟩
      rw [i2]
      constructor
      · rintro ⟨j, hj, rfl⟩; exact ⟨j, by omega, rfl⟩
      · rintro ⟨j, hj, rfl⟩
        rcases Nat.lt_or_ge j m with h | h
        · exact ⟨j, h, rfl⟩
        · obtain rfl : j = m := by omega
          unfold keeps at hk
          have hk : ¬ (j = 0 ∨ d[j]! ≠ d[j - 1]!) := fun e => hk (decide_eq_true e)
          exact ⟨j - 1, by omega, by by_cases e : d[j]! = d[j - 1]!; exact e.symm; exact absurd (.inr e) hk⟩

set_option maxHeartbeats 1000000 in
theorem compactR_any {w : World} {base : Nat} {B : Option Addr} {n c : Nat} {l : List Int} (h : w.ownsRow base 21 1 (.slice B n c) n (i32s l)) (h0 : 0 < n) (hn : n ≤ 10000000) (hs : l.Pairwise (· ≤ ·)) :
    Calls Try.prog 78 #[.slice B n c] w fun e w' => ∃ r : List Int, e = .returned (.slice B r.length c) ∧ r.Pairwise (· < ·) ∧ (∀ v, v ∈ r ↔ v ∈ l) ∧
      w'.ownsRow base 21 1 (.slice B r.length c) r.length (i32s r) ∧ w.grownBy w' (Value.slice B n c).ownBlock := by
  have hl : l.length = n := by have := h.1; rw [i32s_length] at this; omega
  obtain ⟨g, cap, hv, hgb, hgl⟩ := h.form h0
  injection hv with hv1 _ hv2
  subst hv1; subst hv2
  obtain ⟨cur, hg, _, h3, h4, h1, h2⟩ := own_blk h
  have hH : Holds (Value.int .i32) w g 0 l.toArray := by
    intro j hj
    have hj' : j < l.length := by simpa using hj
    refine ⟨?_, hg.frozen _⟩
    rw [hg.cell, Nat.zero_add, getElem!_pos _ j hj]
    have e1 := i32s_at (List.getElem?_eq_getElem hj')
    rw [← h4, List.getElem?_take, if_pos (by omega), Array.getElem?_toList] at e1
    exact e1
  have hz0 : l.toArray.size = n := by simpa using hl
  have hcon := AnyE.slices_Compact (α := Int) Try.compactRn (Value.int .i32) (fun _ => rfl) (EqlAt.intD _ _ _) (NeqAt.intD _ _ _) 0 Try.zeroValue21 g 0 c l.toArray w hH (by omega) (by omega)
  change Calls Try.prog 78 _ _ _ at hcon
  rw [hz0] at hcon
  obtain ⟨p1, p2⟩ := compact_plain l.toArray (fun i j hij hj => by
    have hj' : j < l.length := by simpa using hj
    have := List.pairwise_iff_getElem.1 hs i j (by omega) hj' hij
    rw [getElem!_pos _ i (by simp; omega), getElem!_pos _ j hj]
    simpa using this) n (by omega)
  have hle : (compactUpTo l.toArray n).length ≤ n := by
    unfold compactUpTo
    rw [List.length_map]
    exact Nat.le_trans (List.length_filter_le _ _) (by simp)
  refine hcon.mono ?_
  generalize compactUpTo l.toArray n = r at p1 p2 hle
  rintro e w' ⟨rfl, q, rfl⟩
  refine ⟨r, rfl, p1, fun v => ?_, ?_, ?_⟩
  · rw [p2]
    constructor
    · rintro ⟨j, hj, rfl⟩
      rw [getElem!_pos _ j (by omega)]
      simp
    · intro hv
      obtain ⟨j, hj, rfl⟩ := List.getElem_of_mem hv
      exact ⟨j, by omega, by rw [getElem!_pos _ j (by simpa using hj)]; simp⟩
  · have hb' : Blk (putRow (Value.int .i32) (Sort.ahead w q) g 0 (r ++ List.replicate (n - r.length) 0).toArray) g 21 (putCells (Value.int .i32) 0 (r ++ List.replicate (n - r.length) 0).toArray cur) := by
      unfold Blk at hg ⊢
      unfold putRow mapBlock Sort.ahead
      dsimp only
      rw [Array.getElem?_modify, if_pos rfl, hg]
      rfl
    refine ⟨by rw [i32s_length, Nat.mul_one], .inr ⟨g, c, _, rfl, hgb, hb', by omega, h2, by simpa [putCells] using h3, ?_⟩⟩
    apply List.ext_getElem?
    intro t
    rw [List.getElem?_take]
    by_cases ht : t < r.length * 1
    · rw [if_pos ht, Array.getElem?_toList]
      rw [i32s_at (List.getElem?_eq_getElem (by omega))]
      have htc : t < cur.size := by omega
      simp only [putCells, Array.getElem?_mapIdx, Array.getElem?_eq_getElem htc, Option.map_some]
      rw [if_pos (by simp; omega), getElem!_pos _ _ (by simp; omega)]
      simp only [Nat.sub_zero, List.getElem_toArray]
      rw [List.getElem_append_left (by omega)]
    · rw [if_neg ht, List.getElem?_eq_none (by rw [i32s_length]; omega)]
  · refine ⟨rfl, rfl, rfl, ?_, fun k hk hne => ?_⟩
    · simp [putRow, mapBlock, Sort.ahead]
    · unfold putRow mapBlock Sort.ahead
      dsimp only
      rw [Array.getElem?_modify, if_neg (fun e => hne (by rw [← e]; rfl))]
end Go.Proofs.Ytbhcgjahlfpjoaa
