/- Plain facts on how a text falls into runes: the model's own decoder, walked from the text's head. -/
import Derived.Lib.RuneCount
import Derived.Lib.DecodeN
import Derived.Lib.RuneBytes
namespace Go.Proofs.YtkiljhlbeffnfaaDoor
open Go.RowKit

/-- Where the n-th rune begins. -/
def posN (s : ByteArray) : Nat → Nat
  | 0 => 0
  | n + 1 => posN s n + (Utf8.decode s (posN s n)).2
def symN (s : ByteArray) (n : Nat) : Int × Nat := (((Utf8.decode s (posN s n)).1 : Int), posN s n)
def pre (s : ByteArray) (n : Nat) : List (Int × Nat) := (List.range n).map (symN s)
/-- n is how many runes the text has. -/
def Cnt (s : ByteArray) (n : Nat) : Prop := posN s n = s.size ∧ ∀ k, k < n → posN s k < s.size

theorem pre_length (s : ByteArray) (n : Nat) : (pre s n).length = n := by simp [pre]
theorem pre_succ (s : ByteArray) (n : Nat) : pre s (n + 1) = pre s n ++ [symN s n] := by simp [pre, List.range_succ]
theorem pre_at (s : ByteArray) (n k : Nat) (h : k < n) : (pre s n)[k]? = some (symN s k) := by simp [pre, h]

theorem Cnt.unique {s : ByteArray} {n m : Nat} (h : Cnt s n) (h' : Cnt s m) : n = m := by
  rcases Nat.lt_trichotomy n m with h1 | h1 | h1
  · have := h'.2 n h1; have := h.1; omega
  · exact h1
  · have := h.2 m h1; have := h'.1; omega

theorem decode_fits (s : ByteArray) (i : Nat) (h : i < s.size) : 1 ≤ (Utf8.decode s i).2 ∧ i + (Utf8.decode s i).2 ≤ s.size ∧ (Utf8.decode s i).2 ≤ 4 := by
  refine ⟨Lib.decode_width_pos s i h, ?_⟩
  rw [Lib.decode_at]
  unfold Lib.decodeN
  repeat' split
  all_goals (simp only []; omega)
theorem decode_rune (s : ByteArray) (i : Nat) : (Utf8.decode s i).1 ≤ 1114111 := by
  have hb : ∀ k, (s.get! k).toNat < 256 := fun k => (s.get! k).toNat_lt
  have h0 := hb i; have h1 := hb (i + 1); have h2 := hb (i + 2); have h3 := hb (i + 3)
  rw [Lib.decode_at]
  unfold Lib.decodeN
  repeat' split
  all_goals (simp only []; omega)
theorem posN_lt (s : ByteArray) {n : Nat} (h : ∀ k, k < n → posN s k < s.size) : ∀ {i j : Nat}, i < j → j ≤ n → posN s i < posN s j := by
  intro i j
  induction j with
  | zero => intro h1; omega
  | succ j ih =>
    intro h1 h2
    have h3 := (decode_fits s (posN s j) (h j (by omega))).1
    have h4 : posN s j < posN s (j + 1) := by simp only [posN]; omega
    rcases Nat.lt_succ_iff_lt_or_eq.1 h1 with h5 | h5
    · have := ih h5 (by omega); omega
    · subst h5; exact h4
theorem posN_le_size (s : ByteArray) {n : Nat} (h : ∀ k, k < n → posN s k < s.size) : posN s n ≤ s.size := by
  cases n with
  | zero => simp [posN]
  | succ n => exact (decode_fits s (posN s n) (h n (by omega))).2.1
theorem posN_ge (s : ByteArray) {n : Nat} (h : ∀ k, k < n → posN s k < s.size) : n ≤ posN s n := by
  induction n with
  | zero => omega
  | succ n ih =>
    have := ih fun k hk => h k (by omega)
    have := posN_lt s h (show n < n + 1 by omega) (Nat.le_refl _)
    omega
/-- There is such a number. -/
theorem Cnt.exists (s : ByteArray) : ∃ n, Cnt s n := by
  have key : ∀ d n, (∀ k, k < n → posN s k < s.size) → s.size - posN s n ≤ d → ∃ m, Cnt s m := by
    intro d
    induction d with
    | zero =>
      intro n h hd
      have := posN_le_size s h
      exact ⟨n, by omega, h⟩
    | succ d ih =>
      intro n h hd
      have h1 := posN_le_size s h
      by_cases h2 : posN s n = s.size
      · exact ⟨n, h2, h⟩
      · have h3 : ∀ k, k < n + 1 → posN s k < s.size := fun k hk => by
          rcases Nat.lt_succ_iff_lt_or_eq.1 hk with h4 | h4
          · exact h k h4
          · subst h4; omega
        have := posN_lt s h3 (show n < n + 1 by omega) (Nat.le_refl _)
        exact ih (n + 1) h3 (by omega)
  exact key s.size 0 (fun k hk => by omega) (by simp [posN])
theorem Cnt.le {s : ByteArray} {n : Nat} (h : Cnt s n) : n ≤ s.size := by have := posN_ge s h.2; have := h.1; omega

/-- What stands from place i on decodes as it does in the whole. -/
theorem get!_extract (s : ByteArray) (i j : Nat) (h : i + j < s.size) : (s.extract i s.size).get! j = s.get! (i + j) := by
  have h1 : j < (s.extract i s.size).size := by rw [ByteArray.size_extract]; omega
  have e1 := get_at (s.extract i s.size) j h1
  have e2 := get_at s (i + j) h
  simp only [Nat.add_zero] at e1 e2
  rw [e1, e2]
  simp [ByteArray.getElem_eq_getElem_data]
theorem decodeN_far (n b0 b1 b2 b3 c1 c2 c3 : Nat) (h1 : 1 < n → b1 = c1) (h2 : 2 < n → b2 = c2) (h3 : 3 < n → b3 = c3) : Lib.decodeN n b0 b1 b2 b3 = Lib.decodeN n b0 c1 c2 c3 := by
  rcases Nat.lt_or_ge 1 n with k1 | k1
  · obtain rfl := h1 k1
    rcases Nat.lt_or_ge 2 n with k2 | k2
    · obtain rfl := h2 k2
      rcases Nat.lt_or_ge 3 n with k3 | k3
      · obtain rfl := h3 k3; rfl
      · simp only [Lib.decodeN, show ¬ (3 < n) by omega, false_and, and_false, if_false]
    · simp only [Lib.decodeN, show ¬ (2 < n) by omega, show ¬ (3 < n) by omega, false_and, and_false, if_false]
  · simp only [Lib.decodeN, show ¬ (1 < n) by omega, false_and, and_false, if_false]
theorem decode_extract (s : ByteArray) (i : Nat) (h : i < s.size) : Utf8.decode (s.extract i s.size) 0 = Utf8.decode s i := by
  rw [Lib.decode_at, Lib.decode_at, ByteArray.size_extract]
  have e0 := get!_extract s i 0 (by omega)
  simp only [Nat.add_zero, Nat.zero_add, Nat.sub_zero, Nat.min_self] at e0 ⊢
  rw [e0]
  refine decodeN_far _ _ _ _ _ _ _ _ (fun hk => ?_) (fun hk => ?_) (fun hk => ?_)
  · rw [get!_extract s i 1 (by omega)]
  · rw [get!_extract s i 2 (by omega)]
  · rw [get!_extract s i 3 (by omega)]
end Go.Proofs.YtkiljhlbeffnfaaDoor
