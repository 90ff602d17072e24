/- The bits of a place. -/
import Derived.Test.YtkiljhlbeffnfaaDoorLawKi
namespace Go.Proofs.YtkiljhlbeffnfaaDoor
open Go.RowKit

def atBits (a b c : Int) (z : Bool) : Prop :=
  (bits BinOp.and IntKind.i64 a 1 != 0) = (b == -1) ∧ (bits BinOp.and IntKind.i64 a 2 != 0) = (c == -1) ∧
  (bits BinOp.and IntKind.i64 a 4 != 0) = (b == -1 || b == 10) ∧ (bits BinOp.and IntKind.i64 a 8 != 0) = (c == -1 || c == 10) ∧
  (bits BinOp.and IntKind.i64 a 16 != 0) = z ∧ (bits BinOp.and IntKind.i64 a 32 != 0) = !z

theorem at_bits (b c : Int) : ∃ z, atBits (atOf b c) b c z := by
  have key : ∀ x : Int, (x = 16 ∨ x = 32) → ∃ z, atBits (x + (if (b == -1) = true then 5 else if (b == 10) = true then 4 else 0) + (if (c == -1) = true then 10 else if (c == 10) = true then 8 else 0)) b c z := by
    intro x hx
    unfold atBits
    rcases hb1 : (b == -1) <;> rcases hb2 : (b == 10) <;> rcases hc1 : (c == -1) <;> rcases hc2 : (c == 10) <;> rcases hx with rfl | rfl
    all_goals first
      | exact ⟨true, by decide⟩
      | exact ⟨false, by decide⟩
  unfold atOf
  by_cases hw : (!wordB b == wordB c) = true
  · rw [if_pos hw]; exact key 16 (.inl rfl)
  · rw [if_neg hw]; exact key 32 (.inr rfl)
end Go.Proofs.YtkiljhlbeffnfaaDoor
