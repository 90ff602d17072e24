/- Runes of one class: in the same sets, of a word or none, a line feed or none; martelloref01.Word. -/
import Derived.Test.YtbhcgjahlfpjoaaCs6
namespace Go.Proofs.Ytbhcgjahlfpjoaa
open Go.RowKit

theorem count_eq {a b : Int} (hab : a ≤ b) : ∀ l : List Int, l.countP (fun x => decide (x ≤ a)) ≤ l.countP (fun x => decide (x ≤ b)) ∧ (l.countP (fun x => decide (x ≤ a)) = l.countP (fun x => decide (x ≤ b)) → ∀ v ∈ l, v ≤ b → v ≤ a) := by
  intro l
  induction l with
  | nil => exact ⟨Nat.le_refl _, fun _ v h => by cases h⟩
  | cons x l ih =>
    obtain ⟨i1, i2⟩ := ih
    simp only [List.countP_cons, decide_eq_true_eq]
    by_cases h1 : x ≤ a
    · rw [if_pos h1, if_pos (by omega)]
      refine ⟨by omega, fun he v hv hb => ?_⟩
      rcases List.mem_cons.1 hv with rfl | hv
      · exact h1
      · exact i2 (by omega) v hv hb
    · rw [if_neg h1]
      by_cases h2 : x ≤ b
      · rw [if_pos h2]
        exact ⟨by omega, fun he => by omega⟩
      · rw [if_neg h2]
        refine ⟨by omega, fun he v hv hb => ?_⟩
        rcases List.mem_cons.1 hv with rfl | hv
        · exact absurd hb h2
        · exact i2 (by omega) v hv hb
theorem class_alike {xs l : List Int} (h : GSt xs l) {a b : Int} (ha : ¬ (a < 0 ∨ 1114111 < a)) (hb : ¬ (b < 0 ∨ 1114111 < b)) (hc : classZ l a = classZ l b) : ∀ v ∈ xs, v ≤ a ↔ v ≤ b := by
  have he : l.countP (fun x => decide (x ≤ a)) = l.countP (fun x => decide (x ≤ b)) := by
    unfold classZ at hc
    rw [if_neg ha, if_neg hb] at hc
    omega
  intro v hv
  by_cases hm : v ≤ 1114111
  · have hl := (h.2 v).2 ⟨hv, hm⟩
    rcases Int.le_total a b with hab | hab
    · exact ⟨fun h1 => by omega, (count_eq hab l).2 he v hl⟩
    · exact ⟨(count_eq hab l).2 he.symm v hl, fun h1 => by omega⟩
  · constructor <;> intro h1 <;> omega
/-- Runes of one class. -/
def Alike (L : List MI) (a b : Int) : Prop := (0 ≤ a ∧ a ≤ 1114111) ∧ (0 ≤ b ∧ b ≤ 1114111) ∧ ∀ v ∈ base11 ++ pts L, v ≤ a ↔ v ≤ b
theorem Alike.has {L : List MI} {a b : Int} (h : Alike L a b) {x : MI} (hx : x ∈ L) : hasB x.set a = hasB x.set b := by
  rw [Bool.eq_iff_iff, hasB_iff, hasB_iff]
  unfold maxR
  have key : ∀ p ∈ x.set, (p.1 ≤ a ∧ a ≤ p.2) ↔ (p.1 ≤ b ∧ b ≤ p.2) := fun p hp => by
    have hm : ∀ v, v = p.1 ∨ v = p.2 + 1 → v ∈ base11 ++ pts L := fun v hv => by
      refine List.mem_append_right _ (List.mem_flatMap.2 ⟨x, hx, List.mem_flatMap.2 ⟨p, hp, ?_⟩⟩)
      rcases hv with rfl | rfl <;> simp
    have h1 := h.2.2 p.1 (hm _ (.inl rfl))
    have h2 := h.2.2 (p.2 + 1) (hm _ (.inr rfl))
    omega
  constructor
  · rintro ⟨_, p, hp, h1⟩; exact ⟨h.2.1, p, hp, (key p hp).1 h1⟩
  · rintro ⟨_, p, hp, h1⟩; exact ⟨h.1, p, hp, (key p hp).2 h1⟩
def wordB (c : Int) : Bool := decide (48 ≤ c ∧ c ≤ 57 ∨ 65 ≤ c ∧ c ≤ 90 ∨ 97 ≤ c ∧ c ≤ 122 ∨ c = 95)
theorem Alike.base {L : List MI} {a b : Int} (h : Alike L a b) : ∀ v ∈ base11, v ≤ a ↔ v ≤ b := fun v hv => h.2.2 v (List.mem_append_left _ hv)
theorem Alike.word {L : List MI} {a b : Int} (h : Alike L a b) : wordB a = wordB b := by
  have h1 := h.base
  simp only [base11, List.forall_mem_cons] at h1
  unfold wordB
  rw [Bool.eq_iff_iff, decide_eq_true_eq, decide_eq_true_eq]
  omega
theorem Alike.feed {L : List MI} {a b : Int} (h : Alike L a b) : (a == 10) = (b == 10) := by
  have h1 := h.base
  simp only [base11, List.forall_mem_cons] at h1
  rw [Bool.eq_iff_iff, beq_iff_eq, beq_iff_eq]
  omega

theorem retWB {x y : Bool} (h : x = y) : Ending.returned (.bool x) = Ending.returned (.bool y) := by rw [h]
set_option maxHeartbeats 1000000 in
theorem refWord_any (c : Int) (w : World) : Calls Try.prog 52 #[.int .i32 c] w fun e w' => e = .returned (.bool (wordB c)) ∧ w = w' := by
  by_cases h95 : c = 95
  · subst h95
    go_enter Try.func52, Try.ntmps52
    go_wp2
    go_ret
    exact ⟨retWB (by decide), rfl⟩
  · go_enter Try.func52, Try.ntmps52
    go_wp2
    all_goals (go_ret; exact ⟨retWB (by unfold wordB; first | exact (decide_eq_true (by omega)).symm | exact (decide_eq_false (by omega)).symm | (rw [Bool.eq_iff_iff]; simp; omega)), rfl⟩)
end Go.Proofs.Ytbhcgjahlfpjoaa
