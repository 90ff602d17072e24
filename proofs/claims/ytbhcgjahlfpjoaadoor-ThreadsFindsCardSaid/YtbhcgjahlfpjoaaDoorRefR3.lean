/- The reference's Right: the walk; SetsRight. -/
import Derived.Test.YtbhcgjahlfpjoaaDoorOpT3
namespace Go.Proofs.YtbhcgjahlfpjoaaDoor
open Go.RowKit

/-- The first k ranges are right. -/
def RightTo (l : List Rg) (k : Nat) : Prop := Canon (l.take k)
theorem right_snoc {l : List Rg} {k : Nat} {p : Rg} (h : RightTo l k) (hp : l[k]? = some p) (h1 : 0 ≤ p.1 ∧ p.1 ≤ p.2 ∧ p.2 ≤ maxR) (h2 : ∀ q, 0 < k → l[k - 1]? = some q → q.2 + 2 ≤ p.1) : RightTo l (k + 1) := by
  unfold RightTo at *
  rw [List.take_add_one, hp]
  refine canon_append h h1 fun q hq => ?_
  rcases Nat.eq_zero_or_pos k with h0 | h0
  · subst h0; simp at hq
  · obtain ⟨i, hi, rfl⟩ := List.getElem_of_mem hq
    have hkl : k < l.length := (List.getElem?_eq_some_iff.1 hp).1
    rw [List.length_take] at hi
    have hik : i < k := by omega
    have e1 : (l.take k)[i]? = l[i]? := by rw [List.getElem?_take, if_pos hik]
    rcases Nat.lt_or_ge i (k - 1) with h3 | h3
    · have h4 : i < (l.take k).length := by rw [List.length_take]; omega
      have h5 : k - 1 < (l.take k).length := by rw [List.length_take]; omega
      have h6 := (List.pairwise_iff_getElem.1 h.2) i (k - 1) h4 h5 h3
      have h7 := h2 (l.take k)[k - 1] h0 (by rw [← List.getElem?_eq_getElem h5, List.getElem?_take, if_pos (by omega)])
      have h8 := h.1 _ (List.getElem_mem h5)
      omega
    · have : i = k - 1 := by omega
      subst this
      exact h2 _ h0 (by rw [← e1]; exact List.getElem?_eq_getElem _)
theorem right_no {l : List Rg} {k : Nat} {p : Rg} (hp : l[k]? = some p) (h : ¬ ((0 ≤ p.1 ∧ p.1 ≤ p.2 ∧ p.2 ≤ maxR) ∧ ∀ q, 0 < k → l[k - 1]? = some q → q.2 + 2 ≤ p.1)) : ¬ Canon l := by
  intro hc
  refine h ⟨hc.1 p (List.mem_of_getElem? hp), fun q h0 hq => ?_⟩
  obtain ⟨h1, rfl⟩ := List.getElem?_eq_some_iff.1 hp
  obtain ⟨h2, rfl⟩ := List.getElem?_eq_some_iff.1 hq
  exact (List.pairwise_iff_getElem.1 hc.2) (k - 1) k h2 h1 (by omega)

set_option maxRecDepth 20000 in
set_option maxHeartbeats 2000000 in
theorem refRight_any {w : World} {A : Option Addr} {n c : Nat} {l : List Rg} (hA : RgIn w A n c l) :
    Calls Tryd.prog 50 #[.slice A n c] w fun e w' => (∃ b, e = .returned (.bool b) ∧ (b = true ↔ Canon l)) ∧ Below w.heap.size w w' := by
  have h1 := hA.max
  have h2 := hA.le
  unfold maxLen at h1
  have hnc : (n : Int) ≤ 9223372036854775807 := by omega
  have HA := Lib.hid hA
  clear hA h1 h2
  go_enter Tryd.func50, Tryd.ntmps50
  go_wp2_with fail
  go_loopg [3] (n + 1) (fun q i wr => ∃ (j : Nat), q = n + 1 - j ∧ j ≤ n ∧ i = .int .i64 (j : Int) ∧ Hid ((∃ dd, wr = w.drewN dd) ∧ RightTo l j))
  case atStart => exact ⟨0, rfl, by omega, rfl, Lib.hid ⟨⟨0, rfl⟩, canon_nil⟩⟩
  case round =>
    obtain ⟨j, hgk, hj, rfl, HR⟩ := hrel
    have HG := Lib.hid hgk
    clear hgk
    have HBW : Hid (Below w.heap.size w wr) := Lib.hid (by obtain ⟨⟨dd, rfl⟩, _⟩ := HR.out; exact (Below.refl _ _).drewN)
    by_cases hlt : j < n
    · obtain ⟨b, o, p, rfl, hb, hp, hc, hf⟩ := HA.out.at hlt
      obtain ⟨c1, c2⟩ := hc wr (.of_below HBW.out (Nat.le_refl _))
      have hi : (j : Int) < (n : Int) := by omega
      have HP := Lib.hid hp
      have HLT := Lib.hid hlt
      have hno : ¬ ((0 ≤ p.1 ∧ p.1 ≤ p.2 ∧ p.2 ≤ maxR) ∧ ∀ q, 0 < j → l[j - 1]? = some q → q.2 + 2 ≤ p.1) → Hid (¬ Canon l) := fun h => Lib.hid (right_no HP.out h)
      clear hb hp hlt
      by_cases q1 : p.1 < 0
      · have HN := hno (fun h => by omega)
        clear hno hc HA
        go_wp2_with fail
        go_big_quiet (fail)
        go_wp2_with fail
        go_ret
        exact ⟨⟨false, rfl, by simp [HN.out]⟩, HBW.out.drewN⟩
      · have d1 : decide (p.1 < 0) = false := decide_eq_false q1
        have d1' : (0 : Int) ≤ p.1 := by omega
        by_cases q2 : 1114111 < p.2
        · have HN := hno (fun h => by unfold maxR at h; omega)
          have d2 : decide (1114111 < p.2) = true := decide_eq_true q2
          clear hno hc HA
          go_wp2_with fail
          go_big_quiet (fail)
          go_wp2_with fail
          go_ret
          exact ⟨⟨false, rfl, by simp [HN.out]⟩, HBW.out.drewN⟩
        · have d2 : decide (1114111 < p.2) = false := decide_eq_false q2
          have d2' : p.2 ≤ 1114111 := by omega
          by_cases q3 : p.2 < p.1
          · have HN := hno (fun h => by omega)
            have d3 : decide (p.2 < p.1) = true := decide_eq_true q3
            clear hno hc HA
            go_wp2_with fail
            go_big_quiet (fail)
            go_wp2_with fail
            go_ret
            exact ⟨⟨false, rfl, by simp [HN.out]⟩, HBW.out.drewN⟩
          · have d3 : decide (p.2 < p.1) = false := decide_eq_false q3
            have d3' : p.1 ≤ p.2 := by omega
            rcases Nat.eq_zero_or_pos j with h0 | h0
            · have HO : Hid (RightTo l (j + 1)) := Lib.hid (right_snoc HR.out.2 HP.out ⟨d1', d3', by unfold maxR; omega⟩ (fun q h => by omega))
              have e0 : ¬ (0 : Int) < (j : Int) := by omega
              have e1 : decide ((0 : Int) < (j : Int)) = false := decide_eq_false e0
              have e2 : decide (0 < j) = false := decide_eq_false (by omega)
              clear hno hc HA h0
              go_wp2_with fail
              go_big_quiet (fail)
              go_wp2_with fail
              go_big_quiet (fail)
              go_wp2_with fail
              go_roundg (n + 1 - (j + 1))
              case measure => have := HG.out; have := HLT.out; omega
              case rel =>
                refine ⟨j + 1, rfl, by have := HLT.out; omega, by go_num, Lib.hid ⟨?_, HO.out⟩⟩
                obtain ⟨⟨dd, rfl⟩, _⟩ := HR.out
                exact ⟨_, World.drewN_drewN _ _ _⟩
            · obtain ⟨b', o', q, hBe, hb', hq, hc', _⟩ := HA.out.at (k := j - 1) (by have := HLT.out; omega)
              injection hBe with hBe
              injection hBe with hBe1 hBe2
              subst hBe1; subst hBe2
              obtain ⟨c3, c4⟩ := hc' wr (.of_below HBW.out (Nat.le_refl _))
              have hqr : 0 ≤ q.1 ∧ q.1 ≤ q.2 ∧ q.2 ≤ maxR := by
                refine HR.out.2.1 q (List.mem_of_getElem? (i := j - 1) ?_)
                rw [List.getElem?_take, if_pos (by omega)]; exact hq
              unfold maxR at hqr
              have e0 : (0 : Int) < (j : Int) := by omega
              have e1 : decide ((0 : Int) < (j : Int)) = true := decide_eq_true e0
              have e2 : decide (0 < j) = true := decide_eq_true h0
              have hw1 : IntKind.i64.wrap ((j : Int) - 1) = (j : Int) - 1 := IntWalk.i64_in _ (by omega)
              have hw3 : (0 : Int) ≤ (j : Int) - 1 := by omega
              have hw4 : ((j : Int) - 1).toNat = j - 1 := by omega
              have hw5 : (j : Int) - 1 < (n : Int) := by omega
              have hw6 : IntKind.i32.wrap (p.1 - q.2) = p.1 - q.2 := IntWalk.i32_in _ (by omega)
              have HQ := Lib.hid hq
              have hnx : q.2 + 2 ≤ p.1 → Hid (RightTo l (j + 1)) := fun h => Lib.hid (right_snoc HR.out.2 HP.out ⟨d1', d3', by unfold maxR; omega⟩ (fun q' _ hq' => by rw [HQ.out] at hq'; injection hq' with hq'; subst hq'; exact h))
              clear hc hc' HA hb' hq
              by_cases q4 : p.1 ≤ q.2
              · have HN := hno (fun h => by have := h.2 q h0 HQ.out; omega)
                have d4 : decide (p.1 ≤ q.2) = true := decide_eq_true q4
                clear hno hnx
                go_wp2_with fail
                go_big_quiet (fail)
                go_wp2_with fail
                go_big_quiet (fail)
                go_wp2_with fail
                go_ret
                exact ⟨⟨false, rfl, by simp [HN.out]⟩, HBW.out.drewN.drewN⟩
              · have d4 : decide (p.1 ≤ q.2) = false := decide_eq_false q4
                by_cases q5 : p.1 - q.2 < 2
                · have HN := hno (fun h => by have := h.2 q h0 HQ.out; omega)
                  have d5 : decide (p.1 - q.2 < 2) = true := decide_eq_true q5
                  clear hno hnx
                  go_wp2_with fail
                  go_big_quiet (fail)
                  go_wp2_with fail
                  go_big_quiet (fail)
                  go_wp2_with fail
                  go_ret
                  exact ⟨⟨false, rfl, by simp [HN.out]⟩, HBW.out.drewN.drewN⟩
                · have d5 : decide (p.1 - q.2 < 2) = false := decide_eq_false q5
                  have HO := hnx (by omega)
                  clear hno hnx
                  go_wp2_with fail
                  go_big_quiet (fail)
                  go_wp2_with fail
                  go_big_quiet (fail)
                  go_wp2_with fail
                  go_roundg (n + 1 - (j + 1))
                  case measure => have := HG.out; have := HLT.out; omega
                  case rel =>
                    refine ⟨j + 1, rfl, by have := HLT.out; omega, by go_num, Lib.hid ⟨?_, HO.out⟩⟩
                    obtain ⟨⟨dd, rfl⟩, _⟩ := HR.out
                    exact ⟨_, World.drewN_drewN _ _ _⟩
    · have hi : (n : Int) ≤ (j : Int) := by omega
      have hre : l.take j = l := by rw [List.take_of_length_le (by have := HA.out.len; omega)]
      have hcan := HR.out.2
      unfold RightTo at hcan
      rw [hre] at hcan
      have HC := Lib.hid hcan
      clear hre hcan hlt
      go_wp2_with fail
      go_ret
      exact ⟨⟨true, rfl, by simp [HC.out]⟩, HBW.out⟩
end Go.Proofs.YtbhcgjahlfpjoaaDoor
