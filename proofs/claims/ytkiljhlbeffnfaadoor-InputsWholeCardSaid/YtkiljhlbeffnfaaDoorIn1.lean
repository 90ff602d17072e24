/- The accessors of an input (program and reference): each returns the plain function of what the input holds. -/
import Derived.Test.YtkiljhlbeffnfaaDoorProg
import Derived.Test.YtkiljhlbeffnfaaDoorMem
import Derived.WalkKit
import Derived.WalkSpells
import Derived.WalkLawsBesides
import Derived.KernelRfl
import Derived.Deep.QuietTactic
import Derived.BigQuiet
import Derived.Lib.Hide
namespace Go.Proofs.YtkiljhlbeffnfaaDoor
open Go.RowKit

/-- The cells of runes with places. -/
def symCells (l : List (Int × Nat)) : List Value := l.flatMap fun p => [.int .i32 p.1, .int .i64 (p.2 : Int)]
def runeAt (l : List (Int × Nat)) (i : Int) : Int := if i < 0 then -1 else match l[i.toNat]? with | some p => p.1 | none => -1
def offAt (l : List (Int × Nat)) (i : Int) : Int := if i < 0 then -1 else match l[i.toNat]? with | some p => (p.2 : Int) | none => -1
def byteVals (s : List UInt8) : List Value := s.map fun c => .int .u8 (c.toNat : Int)

theorem symCells_length (l : List (Int × Nat)) : (symCells l).length = l.length * 2 := by
  induction l with
  | nil => rfl
  | cons p l ih => simp only [symCells, List.flatMap_cons, List.length_append, List.length_cons, List.length_nil] at *; omega
theorem symCells_at (l : List (Int × Nat)) (i : Nat) (p : Int × Nat) (h : l[i]? = some p) : (symCells l)[i * 2]? = some (.int .i32 p.1) ∧ (symCells l)[i * 2 + 1]? = some (.int .i64 (p.2 : Int)) := by
  induction l generalizing i with
  | nil => simp at h
  | cons q l ih =>
    cases i with
    | zero =>
      simp at h
      subst h
      exact ⟨rfl, rfl⟩
    | succ i =>
      simp at h
      have := ih i h
      have e1 : (i + 1) * 2 = i * 2 + 1 + 1 := by omega
      rw [e1]
      exact this
theorem symCells_append (l m : List (Int × Nat)) : symCells (l ++ m) = symCells l ++ symCells m := by simp [symCells]

/-- A block holds runes with places, and the text. -/
def SymsAt (w : World) (lo U g : Nat) (l : List (Int × Nat)) (s : List UInt8) : Prop :=
  lo ≤ g ∧ g < U ∧ ∃ A c T tc, w.cell? ⟨g, 0, none⟩ = some (.slice A l.length c) ∧ w.cell? ⟨g, 1, none⟩ = some (.slice T s.length tc) ∧ Rd w lo U A (symCells l) ∧ Rd w lo U T (byteVals s) ∧
    l.length ≤ c ∧ c ≤ maxLen ∧ s.length ≤ tc ∧ tc ≤ maxLen
theorem SymsAt.same {w w' : World} {lo U g : Nat} {l : List (Int × Nat)} {s : List UInt8} (h : SymsAt w lo U g l s) (hs : Same lo U w w') : SymsAt w' lo U g l s := by
  obtain ⟨h1, h2, A, c, T, tc, a, b, d, e, r⟩ := h
  exact ⟨h1, h2, A, c, T, tc, (hs.cell (p := ⟨g, 0, none⟩) h1 h2).trans a, (hs.cell (p := ⟨g, 1, none⟩) h1 h2).trans b, d.same hs, e.same hs, r⟩
theorem SymsAt.drewN {w : World} {lo U g : Nat} {l : List (Int × Nat)} {s : List UInt8} (h : SymsAt w lo U g l s) (n : Nat) : SymsAt (w.drewN n) lo U g l s := h.same ((Same.refl _ _ _).drewN n)
theorem SymsAt.mono {w : World} {lo U g lo' U' : Nat} {l : List (Int × Nat)} {s : List UInt8} (h : SymsAt w lo U g l s) (a : lo' ≤ lo) (b : U ≤ U') : SymsAt w lo' U' g l s := by
  obtain ⟨h1, h2, A, c, T, tc, a', b', d, e, r⟩ := h
  exact ⟨by omega, by omega, A, c, T, tc, a', b', d.mono a b, e.mono a b, r⟩

section
variable {w : World} {lo U g : Nat} {l : List (Int × Nat)} {s : List UInt8}
theorem len_any (h : SymsAt w lo U g l s) : Calls Tryd.prog 15 #[.pointer (some ⟨g, 0, none⟩)] w fun e w' => e = .returned (.int .i64 ((l.length : Int) - 1)) ∧ w = w' := by
  obtain ⟨_, _, A, c, T, tc, hc, _, _, _, h1, h2, _, _⟩ := h
  unfold maxLen at h2
  go_enter Tryd.func15, Tryd.ntmps15
  go_wp2
  go_ret
  exact ⟨rfl, rfl⟩

theorem rune_any (h : SymsAt w lo U g l s) (i : Int) : Calls Tryd.prog 17 #[.pointer (some ⟨g, 0, none⟩), .int .i64 i] w fun e w' => e = .returned (.int .i32 (runeAt l i)) ∧ w = w' := by
  obtain ⟨_, _, A, c, T, tc, hc, _, hA, _, h1, h2, _, _⟩ := h
  unfold maxLen at h2
  by_cases hi : i < 0
  · have e1 : runeAt l i = -1 := by simp [runeAt, hi]
    rw [e1]
    go_enter Tryd.func17, Tryd.ntmps17
    go_wp2
    go_ret
    exact ⟨rfl, rfl⟩
  · obtain ⟨k, rfl⟩ := Int.eq_ofNat_of_zero_le (by omega : 0 ≤ i)
    by_cases hk : k < l.length
    · obtain ⟨p, hp⟩ : ∃ p, l[k]? = some p := ⟨_, List.getElem?_eq_getElem hk⟩
      have e1 : runeAt l (k : Int) = p.1 := by simp [runeAt, hi, hp]
      rw [e1]
      obtain ⟨b, off, rfl, _, _, hcell⟩ := hA (by rw [symCells_length]; omega)
      have c1 := hcell _ _ (symCells_at l k p hp).1
      clear hcell hp e1
      go_enter Tryd.func17, Tryd.ntmps17
      go_wp2
      go_ret
      exact ⟨rfl, rfl⟩
    · have e1 : runeAt l (k : Int) = -1 := by simp [runeAt, hi, List.getElem?_eq_none (by omega : l.length ≤ k)]
      rw [e1]
      go_enter Tryd.func17, Tryd.ntmps17
      go_wp2
      go_ret
      exact ⟨rfl, rfl⟩

theorem off_any (h : SymsAt w lo U g l s) (i : Int) : Calls Tryd.prog 19 #[.pointer (some ⟨g, 0, none⟩), .int .i64 i] w fun e w' => e = .returned (.int .i64 (offAt l i)) ∧ w = w' := by
  obtain ⟨_, _, A, c, T, tc, hc, _, hA, _, h1, h2, _, _⟩ := h
  unfold maxLen at h2
  by_cases hi : i < 0
  · have e1 : offAt l i = -1 := by simp [offAt, hi]
    rw [e1]
    go_enter Tryd.func19, Tryd.ntmps19
    go_wp2
    go_ret
    exact ⟨rfl, rfl⟩
  · obtain ⟨k, rfl⟩ := Int.eq_ofNat_of_zero_le (by omega : 0 ≤ i)
    by_cases hk : k < l.length
    · obtain ⟨p, hp⟩ : ∃ p, l[k]? = some p := ⟨_, List.getElem?_eq_getElem hk⟩
      have e1 : offAt l (k : Int) = (p.2 : Int) := by simp [offAt, hi, hp]
      rw [e1]
      obtain ⟨b, off, rfl, _, _, hcell⟩ := hA (by rw [symCells_length]; omega)
      have c1 := hcell _ _ (symCells_at l k p hp).2; rw [show off + (k * 2 + 1) = off + k * 2 + 1 by omega] at c1
      clear hcell hp e1
      go_enter Tryd.func19, Tryd.ntmps19
      go_wp2
      go_ret
      exact ⟨rfl, rfl⟩
    · have e1 : offAt l (k : Int) = -1 := by simp [offAt, hi, List.getElem?_eq_none (by omega : l.length ≤ k)]
      rw [e1]
      go_enter Tryd.func19, Tryd.ntmps19
      go_wp2
      go_ret
      exact ⟨rfl, rfl⟩

theorem kind_any (k : Int) (hc : w.cell? ⟨g, 2, none⟩ = some (.int .i64 k)) : Calls Tryd.prog 14 #[.pointer (some ⟨g, 0, none⟩)] w fun e w' => e = .returned (.int .i64 k) ∧ w = w' := by
  go_enter Tryd.func14, Tryd.ntmps14
  go_wp2
  go_ret
  exact ⟨rfl, rfl⟩
end

/-- Is a rune a word's? -/
def wordB (c : Int) : Bool := decide (48 ≤ c ∧ c ≤ 57 ∨ 65 ≤ c ∧ c ≤ 90 ∨ 97 ≤ c ∧ c ≤ 122 ∨ c = 95)
/-- What a place between two runes is (-1: there is none). -/
def atOf (b c : Int) : Int :=
  (if (!wordB b == wordB c) = true then 16 else 32) + (if (b == -1) = true then 5 else if (b == 10) = true then 4 else 0) + (if (c == -1) = true then 10 else if (c == 10) = true then 8 else 0)
def atAt (l : List (Int × Nat)) (i : Int) : Int := if i < 0 ∨ (l.length : Int) - 1 < i then 0 else atOf (runeAt l (i - 1)) (runeAt l i)

theorem retB {a b : Bool} (h : a = b) : Ending.returned (.bool a) = .returned (.bool b) := by rw [h]
theorem retI {k : IntKind} {a b : Int} (h : a = b) : Ending.returned (.int k a) = .returned (.int k b) := by rw [h]

theorem wordB_true {c : Int} (h : 48 ≤ c ∧ c ≤ 57 ∨ 65 ≤ c ∧ c ≤ 90 ∨ 97 ≤ c ∧ c ≤ 122 ∨ c = 95) : true = wordB c := by unfold wordB; exact (decide_eq_true h).symm
theorem wordB_false {c : Int} (h : ¬ (48 ≤ c ∧ c ≤ 57 ∨ 65 ≤ c ∧ c ≤ 90 ∨ 97 ≤ c ∧ c ≤ 122 ∨ c = 95)) : false = wordB c := by unfold wordB; exact (decide_eq_false h).symm

theorem word_any (c : Int) (w : World) : Calls Tryd.prog 34 #[.int .i32 c] w fun e w' => e = .returned (.bool (wordB c)) ∧ w = w' := by
  by_cases h95 : c = 95
  · subst h95
    go_enter Tryd.func34, Tryd.ntmps34
    go_wp2
    go_ret
    exact ⟨retB (wordB_true (by omega)), rfl⟩
  · go_enter Tryd.func34, Tryd.ntmps34
    go_wp2
    all_goals (go_ret; first | exact ⟨retB (wordB_true (by omega)), rfl⟩ | exact ⟨retB (wordB_false (by omega)), rfl⟩)

theorem refWord_any (c : Int) (w : World) : Calls Tryd.prog 35 #[.int .i32 c] w fun e w' => e = .returned (.bool (wordB c)) ∧ w = w' := by
  by_cases h95 : c = 95
  · subst h95
    go_enter Tryd.func35, Tryd.ntmps35
    go_wp2
    go_ret
    exact ⟨retB (wordB_true (by omega)), rfl⟩
  · go_enter Tryd.func35, Tryd.ntmps35
    go_wp2
    all_goals (go_ret; first | exact ⟨retB (wordB_true (by omega)), rfl⟩ | exact ⟨retB (by unfold wordB; rw [Bool.eq_iff_iff]; simp; omega), rfl⟩)

set_option maxHeartbeats 2000000 in
theorem at_any {w : World} {lo U g : Nat} {l : List (Int × Nat)} {s : List UInt8} (h : SymsAt w lo U g l s) (i : Int) (h1 : -9223372036854775808 < i) : Calls Tryd.prog 23 #[.pointer (some ⟨g, 0, none⟩), .int .i64 i] w fun e w' => e = .returned (.int .i64 (atAt l i)) ∧ ∃ n, w' = w.drewN n := by
  by_cases hi : i < 0
  · have e1 : atAt l i = 0 := by simp [atAt, hi]
    rw [e1]
    go_enter Tryd.func23, Tryd.ntmps23
    go_wp2
    go_ret
    exact ⟨rfl, 0, rfl⟩
  · by_cases hi2 : (l.length : Int) - 1 < i
    · have e1 : atAt l i = 0 := by simp [atAt, hi2]
      rw [e1]
      go_enter Tryd.func23, Tryd.ntmps23
      go_wp2_with (go_at_call 15; refine (len_any h).mono ?_; rintro e w' ⟨rfl, rfl⟩)
      go_ret
      exact ⟨rfl, 0, rfl⟩
    · have e1 : atAt l i = atOf (runeAt l (i - 1)) (runeAt l i) := by unfold atAt; rw [if_neg (by omega)]
      rw [e1]
      clear e1
      have cR := fun n j => (rune_any (h.drewN n) j).mono fun _ _ ⟨a, b⟩ => (⟨a, b.symm⟩ : _ ∧ _)
      have cL := len_any h
      have hm : (l.length : Int) ≤ 9223372036854775807 := by obtain ⟨_, _, _, _, _, _, _, _, _, _, a, b, _⟩ := h; unfold maxLen at b; omega
      clear h
      go_enter Tryd.func23, Tryd.ntmps23
      go_wp2_with (go_at_call 15; refine cL.mono ?_; rintro e w' ⟨rfl, rfl⟩)
      go_quiet ((go_at_call 17; exact Calls.quiet_of_same (cR _ _)))
      clear cR cL
      generalize hb : runeAt l (i - 1) = b
      generalize hc : runeAt l i = c
      have HB := Lib.hid hb
      have HC := Lib.hid hc
      clear hb hc
      go_wp2_with (go_at_call 34; refine (word_any _ _).mono ?_; rintro e w' ⟨rfl, rfl⟩)
      all_goals (go_ret; rw [HB.out, HC.out]; exact ⟨retI (by simp only [atOf, *]; rfl), _, rfl⟩)
end Go.Proofs.YtkiljhlbeffnfaaDoor
