/- What a place is, by the reference. -/
import Derived.Test.YtkiljhlbeffnfaaDoorIn8
namespace Go.Proofs.YtkiljhlbeffnfaaDoor
open Go.RowKit

theorem runeAt_in (m : List (Int × Nat)) (e : Nat) (i : Int) (h0 : 0 ≤ i) (h1 : i < m.length) (hr : ∀ p ∈ m, 0 ≤ p.1) : 0 ≤ runeAt (full m e) i := by
  obtain ⟨k, rfl⟩ := Int.eq_ofNat_of_zero_le h0
  have hk : k < m.length := by omega
  have := runes_at m e k hk
  simp only [List.getElem?_map, List.getElem?_eq_getElem hk, Option.map_some, Option.some.injEq] at this
  have h2 := hr m[k] (List.getElem_mem hk)
  rw [this] at h2
  exact h2

set_option maxHeartbeats 2000000 in
theorem refAt_any {w : World} {lo U g : Nat} {m : List (Int × Nat)} {e : Nat} {s : List UInt8} (h : RefAt w lo U g m e s) (hr : ∀ p ∈ m, 0 ≤ p.1) (i : Int) :
    Calls Tryd.prog 24 #[.pointer (some ⟨g, 0, none⟩), .int .i64 i] w fun e' w' => e' = .returned (.int .i64 (atAt (full m e) i)) ∧ w = w' := by
  have hfl := full_length m e
  obtain ⟨R, rc, hc, hm⟩ : ∃ R rc, w.cell? ⟨g, 2, none⟩ = some (.slice R m.length rc) ∧ (m.length : Int) ≤ 9223372036854775806 := by
    obtain ⟨_, _, B, bc, R, rc, O, oc, _, b, _, _, _, _, _, _, h1, h2⟩ := h
    unfold maxLen at h2
    exact ⟨R, rc, b, by omega⟩
  by_cases hi : i < 0 ∨ (m.length : Int) < i
  · have e1 : atAt (full m e) i = 0 := by unfold atAt; rw [if_pos (by omega)]
    rw [e1]
    have hi2 : i < 0 ∨ (¬ i < 0 ∧ (m.length : Int) < i) := by omega
    clear hi hfl e1
    rcases hi2 with hi | ⟨h0, hi⟩
    all_goals
      go_enter Tryd.func24, Tryd.ntmps24
      go_wp2
      go_ret
      exact ⟨rfl, rfl⟩
  · have e1 : atAt (full m e) i = atOf (runeAt (full m e) (i - 1)) (runeAt (full m e) i) := by unfold atAt; rw [if_neg (by omega)]
    rw [e1]
    have cR := fun j => refRune_any h j
    have hb : (runeAt (full m e) (i - 1) == -1) = decide (i = 0) := by
      by_cases h0 : i = 0
      · rw [runeAt_out m e _ (.inl (by omega))]; simp [h0]
      · have := runeAt_in m e (i - 1) (by omega) (by omega) hr
        rw [decide_eq_false h0, beq_eq_false_iff_ne]; omega
    have hcq : (runeAt (full m e) i == -1) = decide (i = (m.length : Int)) := by
      by_cases h0 : i = (m.length : Int)
      · rw [runeAt_out m e _ (.inr (by omega))]; simp [h0]
      · have := runeAt_in m e i (by omega) (by omega) hr
        rw [decide_eq_false h0, beq_eq_false_iff_ne]; omega
    have h0 : ¬ i < 0 := by omega
    have hle : ¬ (m.length : Int) < i := by omega
    have cB := cR (i - 1)
    have cC := cR i
    clear cR hi e1 hfl h hr
    generalize runeAt (full m e) (i - 1) = b at cB hb ⊢
    generalize runeAt (full m e) i = c at cC hcq ⊢
    have cases4 : ((i == 0) = true ∧ (b == -1) = true ∨ (i == 0) = false ∧ (b == -1) = false) ∧ ((i == (m.length : Int)) = true ∧ (c == -1) = true ∨ (i == (m.length : Int)) = false ∧ (c == -1) = false) := by
      rw [hb, hcq]
      constructor
      · by_cases h : i = 0
        · left; exact ⟨by simp [h], decide_eq_true h⟩
        · right; exact ⟨beq_eq_false_iff_ne.2 h, decide_eq_false h⟩
      · by_cases h : i = (m.length : Int)
        · left; exact ⟨by simp [h], decide_eq_true h⟩
        · right; exact ⟨beq_eq_false_iff_ne.2 h, decide_eq_false h⟩
    clear hb hcq
    rcases cases4 with ⟨⟨g1, g2⟩ | ⟨g1, g2⟩, ⟨g3, g4⟩ | ⟨g3, g4⟩⟩
    all_goals
      have G2 := Lib.hid g2
      have G4 := Lib.hid g4
      clear g2 g4
      go_enter Tryd.func24, Tryd.ntmps24
      go_wp2_with fail
      refine cB.mono ?_
      rintro e w' ⟨rfl, rfl⟩
      go_wp2_with fail
      refine cC.mono ?_
      rintro e w' ⟨rfl, rfl⟩
      go_wp2_with (go_at_call 35; refine (refWord_any _ _).mono ?_; rintro e w' ⟨rfl, rfl⟩)
      all_goals (go_ret; have g2 := G2.out; have g4 := G4.out; refine ⟨retI ?_, rfl⟩; simp only [atOf, *]; rfl)
end Go.Proofs.YtkiljhlbeffnfaaDoor
