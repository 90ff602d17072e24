/- unicode/utf8.Valid: eight bytes at once. -/
import Derived.Test.YtkiljhlbeffnfaaDoorIn10
namespace Go.Proofs.YtkiljhlbeffnfaaDoor
open Go.RowKit

/-- Eight bytes as one word. -/
def W8 (x0 x1 x2 x3 x4 x5 x6 x7 : Nat) : Int :=
  bits .or .u64 (bits .or .u64 (bits .or .u64 (bits .or .u64 (bits .or .u64 (bits .or .u64 (bits .or .u64 (IntKind.u64.wrap (x0 : Int)) (IntKind.u64.wrap (IntKind.u64.wrap (x1 : Int) * 256))) (IntKind.u64.wrap (IntKind.u64.wrap (x2 : Int) * 65536)))
    (IntKind.u64.wrap (IntKind.u64.wrap (x3 : Int) * 16777216))) (IntKind.u64.wrap (IntKind.u64.wrap (x4 : Int) * 4294967296))) (IntKind.u64.wrap (IntKind.u64.wrap (x5 : Int) * 1099511627776)))
    (IntKind.u64.wrap (IntKind.u64.wrap (x6 : Int) * 281474976710656))) (IntKind.u64.wrap (IntKind.u64.wrap (x7 : Int) * 72057594037927936))
/-- No byte of a word has its high bit. -/
def HiFree (x : Int) : Prop := ∀ i, i < 8 → (BitVec.ofInt 64 x).getLsbD (8 * i + 7) = false
theorem wrap_toNat (c : BitVec 64) : IntKind.u64.wrap (c.toNat : Int) = (c.toNat : Int) := by
  rw [IntKind.wrap_u64]
  have := c.isLt
  omega
theorem bits_u64 (op : BinOp) (x y : Int) : ∃ c : BitVec 64, bits op .u64 x y = (c.toNat : Int) ∧ c = (match op with | .and => BitVec.ofInt 64 x &&& BitVec.ofInt 64 y | .or => BitVec.ofInt 64 x ||| BitVec.ofInt 64 y | .xor => BitVec.ofInt 64 x ^^^ BitVec.ofInt 64 y | _ => BitVec.ofInt 64 x &&& ~~~(BitVec.ofInt 64 y)) := by
  exact ⟨_, wrap_toNat _, rfl⟩
theorem HiFree.of_and {x : Int} (h : bits .and .u64 x 9259542123273814144 = 0) : HiFree x := by
  obtain ⟨c, h1, h2⟩ := bits_u64 .and x 9259542123273814144
  dsimp only at h2
  rw [h] at h1
  have h3 : c = 0#64 := BitVec.eq_of_toNat_eq (by simp; omega)
  intro i hi
  have h4 := congrArg (fun v : BitVec 64 => v.getLsbD (8 * i + 7)) (h2.symm.trans h3)
  simp only [BitVec.getLsbD_and] at h4
  have h5 : (BitVec.ofInt 64 9259542123273814144).getLsbD (8 * i + 7) = true := by
    have : i = 0 ∨ i = 1 ∨ i = 2 ∨ i = 3 ∨ i = 4 ∨ i = 5 ∨ i = 6 ∨ i = 7 := by omega
    rcases this with rfl | rfl | rfl | rfl | rfl | rfl | rfl | rfl <;> decide
  rw [h5, Bool.and_true] at h4
  rw [h4]
  simp
theorem HiFree.or {x y : Int} (h : HiFree (bits .or .u64 x y)) : HiFree x ∧ HiFree y := by
  obtain ⟨c, h1, h2⟩ := bits_u64 .or x y
  dsimp only at h2
  rw [h1] at h
  have hc : BitVec.ofInt 64 (c.toNat : Int) = c := by rw [BitVec.ofInt_natCast, BitVec.ofNat_toNat, BitVec.setWidth_eq]
  refine ⟨fun i hi => ?_, fun i hi => ?_⟩
  all_goals
    have h3 := h i hi
    rw [hc, h2, BitVec.getLsbD_or, Bool.or_eq_false_iff] at h3
  · exact h3.1
  · exact h3.2
theorem HiFree.part {x j : Nat} (hx : x < 256) (hj : j < 8) (h : HiFree ((x * 2 ^ (8 * j) : Nat) : Int)) : x < 128 := by
  have h1 := h j hj
  rw [BitVec.ofInt_natCast, BitVec.getLsbD_ofNat] at h1
  rw [Nat.testBit_mul_two_pow] at h1
  simp only [show 8 * j + 7 < 64 by omega, decide_true, Bool.true_and, show 8 * j ≤ 8 * j + 7 by omega, show 8 * j + 7 - 8 * j = 7 by omega] at h1
  rw [Nat.testBit_eq_decide_div_mod_eq] at h1
  have := of_decide_eq_false h1
  omega
theorem W8.free {x0 x1 x2 x3 x4 x5 x6 x7 : Nat} (h0 : x0 < 256) (h1 : x1 < 256) (h2 : x2 < 256) (h3 : x3 < 256) (h4 : x4 < 256) (h5 : x5 < 256) (h6 : x6 < 256) (h7 : x7 < 256) (h : HiFree (W8 x0 x1 x2 x3 x4 x5 x6 x7)) :
    x0 < 128 ∧ x1 < 128 ∧ x2 < 128 ∧ x3 < 128 ∧ x4 < 128 ∧ x5 < 128 ∧ x6 < 128 ∧ x7 < 128 := by
  unfold W8 at h
  obtain ⟨h, p7⟩ := h.or
  obtain ⟨h, p6⟩ := h.or
  obtain ⟨h, p5⟩ := h.or
  obtain ⟨h, p4⟩ := h.or
  obtain ⟨h, p3⟩ := h.or
  obtain ⟨h, p2⟩ := h.or
  obtain ⟨p0, p1⟩ := h.or
  simp only [IntKind.wrap_u64] at p0 p1 p2 p3 p4 p5 p6 p7
  refine ⟨HiFree.part (j := 0) h0 (by decide) ?_, HiFree.part (j := 1) h1 (by decide) ?_, HiFree.part (j := 2) h2 (by decide) ?_, HiFree.part (j := 3) h3 (by decide) ?_, HiFree.part (j := 4) h4 (by decide) ?_, HiFree.part (j := 5) h5 (by decide) ?_, HiFree.part (j := 6) h6 (by decide) ?_, HiFree.part (j := 7) h7 (by decide) ?_⟩
  · rw [show ((x0 * 2 ^ (8 * 0) : Nat) : Int) = (x0 : Int) % 18446744073709551616 by rw [show (2 : Nat) ^ (8 * 0) = 1 from rfl]; omega]; exact p0
  · rw [show ((x1 * 2 ^ (8 * 1) : Nat) : Int) = (x1 : Int) % 18446744073709551616 * 256 % 18446744073709551616 by rw [show (2 : Nat) ^ (8 * 1) = 256 from rfl]; omega]; exact p1
  · rw [show ((x2 * 2 ^ (8 * 2) : Nat) : Int) = (x2 : Int) % 18446744073709551616 * 65536 % 18446744073709551616 by rw [show (2 : Nat) ^ (8 * 2) = 65536 from rfl]; omega]; exact p2
  · rw [show ((x3 * 2 ^ (8 * 3) : Nat) : Int) = (x3 : Int) % 18446744073709551616 * 16777216 % 18446744073709551616 by rw [show (2 : Nat) ^ (8 * 3) = 16777216 from rfl]; omega]; exact p3
  · rw [show ((x4 * 2 ^ (8 * 4) : Nat) : Int) = (x4 : Int) % 18446744073709551616 * 4294967296 % 18446744073709551616 by rw [show (2 : Nat) ^ (8 * 4) = 4294967296 from rfl]; omega]; exact p4
  · rw [show ((x5 * 2 ^ (8 * 5) : Nat) : Int) = (x5 : Int) % 18446744073709551616 * 1099511627776 % 18446744073709551616 by rw [show (2 : Nat) ^ (8 * 5) = 1099511627776 from rfl]; omega]; exact p5
  · rw [show ((x6 * 2 ^ (8 * 6) : Nat) : Int) = (x6 : Int) % 18446744073709551616 * 281474976710656 % 18446744073709551616 by rw [show (2 : Nat) ^ (8 * 6) = 281474976710656 from rfl]; omega]; exact p6
  · rw [show ((x7 * 2 ^ (8 * 7) : Nat) : Int) = (x7 : Int) % 18446744073709551616 * 72057594037927936 % 18446744073709551616 by rw [show (2 : Nat) ^ (8 * 7) = 72057594037927936 from rfl]; omega]; exact p7

set_option maxRecDepth 20000 in
set_option maxHeartbeats 2000000 in
theorem word8_any {w : World} {b o n c : Nat} (x0 x1 x2 x3 x4 x5 x6 x7 : Nat) (hn : 8 ≤ n)
    (h0 : w.cell? ⟨b, o, none⟩ = some (.int .u8 (x0 : Int))) (h1 : w.cell? ⟨b, o + 1, none⟩ = some (.int .u8 (x1 : Int))) (h2 : w.cell? ⟨b, o + 2, none⟩ = some (.int .u8 (x2 : Int))) (h3 : w.cell? ⟨b, o + 3, none⟩ = some (.int .u8 (x3 : Int)))
    (h4 : w.cell? ⟨b, o + 4, none⟩ = some (.int .u8 (x4 : Int))) (h5 : w.cell? ⟨b, o + 5, none⟩ = some (.int .u8 (x5 : Int))) (h6 : w.cell? ⟨b, o + 6, none⟩ = some (.int .u8 (x6 : Int))) (h7 : w.cell? ⟨b, o + 7, none⟩ = some (.int .u8 (x7 : Int))) :
    Calls Tryd.prog 39 #[.slice (some ⟨b, o, none⟩) n c] w fun e w' => e = .returned (.int .u64 (W8 x0 x1 x2 x3 x4 x5 x6 x7)) ∧ ∃ d, w' = w.drewN d := by
  have hn0 : (0 : Int) < (n : Int) := by omega
  have hn1 : (1 : Int) < (n : Int) := by omega
  have hn2 : (2 : Int) < (n : Int) := by omega
  have hn3 : (3 : Int) < (n : Int) := by omega
  have hn4 : (4 : Int) < (n : Int) := by omega
  have hn5 : (5 : Int) < (n : Int) := by omega
  have hn6 : (6 : Int) < (n : Int) := by omega
  have hn7 : (7 : Int) < (n : Int) := by omega
  go_enter Tryd.func39, Tryd.ntmps39
  go_wp2_with fail
  go_quiet (fail)
  go_wp2_with fail
  go_ret
  exact ⟨rfl, _, rfl⟩
end Go.Proofs.YtkiljhlbeffnfaaDoor
