/- Plain facts on how a text falls into runes: the model's own decoder, walked from the text's head. The accessors of an input (program and reference): each returns the plain function of what the input holds. The accessors of the reference's input. The place of an offset: the binary search. The bytes between two places: program and reference. The bytes between two places, by the reference; one rune off a slice of bytes. decode: a text's runes, one behind the other. New: an input of any bytes. The reference's New. What a place is, by the reference. The laws' own beginnings: head, both. -/
import Derived.Lib.RuneCount
import Derived.Lib.DecodeN
import Derived.Lib.RuneBytes
import Derived.Test.YtbhcgjahlfpjoaaDoorProg
import Derived.Test.YtbhcgjahlfpjoaaDoorMem
import Derived.WalkKit
import Derived.WalkSpells
import Derived.WalkLawsBesides
import Derived.KernelRfl
import Derived.Deep.QuietTactic
import Derived.BigQuiet
import Derived.Lib.Hide
import Derived.Deep.LoopGhost
import Derived.Deep.RegionHeld3
import Derived.Deep.AppendLies
import Derived.Test.YtbhcgjahlfpjoaaDoorShelfIn
import Derived.Laws.BytesArg
import Derived.Lib.OthersKept
import Derived.Deep.DeepFit
import Derived.Lib.SlBytesConst
namespace Go.Proofs.YtbhcgjahlfpjoaaDoor
open Go.RowKit

/-- Where the n-th rune begins. -/
def posN (s : ByteArray) : Nat → Nat
  | 0 => 0
  | n + 1 => posN s n + (Utf8.decode s (posN s n)).2
def symN (s : ByteArray) (n : Nat) : Int × Nat := (((Utf8.decode s (posN s n)).1 : Int), posN s n)
def preR (s : ByteArray) (n : Nat) : List (Int × Nat) := (List.range n).map (symN s)
/-- n is how many runes the text has. -/
def Cnt (s : ByteArray) (n : Nat) : Prop := posN s n = s.size ∧ ∀ k, k < n → posN s k < s.size

theorem pre_length (s : ByteArray) (n : Nat) : (preR s n).length = n := by simp [preR]
theorem pre_succ (s : ByteArray) (n : Nat) : preR s (n + 1) = preR s n ++ [symN s n] := by simp [preR, List.range_succ]
theorem pre_at (s : ByteArray) (n k : Nat) (h : k < n) : (preR s n)[k]? = some (symN s k) := by simp [preR, h]

theorem Cnt.unique {s : ByteArray} {n m : Nat} (h : Cnt s n) (h' : Cnt s m) : n = m := by
  rcases Nat.lt_trichotomy n m with h1 | h1 | h1
  · have := h'.2 n h1; have := h.1; omega
  · exact h1
  · have := h.2 m h1; have := h'.1; omega

theorem decode_fits (s : ByteArray) (i : Nat) (h : i < s.size) : 1 ≤ (Utf8.decode s i).2 ∧ i + (Utf8.decode s i).2 ≤ s.size ∧ (Utf8.decode s i).2 ≤ 4 := by
  refine ⟨Lib.decode_width_pos s i h, ?_⟩
  rw [Lib.decode_at]
  unfold Lib.decodeN
  repeat' split
  all_goals (simp only []; omega)
theorem decode_rune (s : ByteArray) (i : Nat) : (Utf8.decode s i).1 ≤ 1114111 := by
  have hb : ∀ k, (s.get! k).toNat < 256 := fun k => (s.get! k).toNat_lt
  have h0 := hb i; have h1 := hb (i + 1); have h2 := hb (i + 2); have h3 := hb (i + 3)
  rw [Lib.decode_at]
  unfold Lib.decodeN
  repeat' split
  all_goals (simp only []; omega)
theorem posN_lt (s : ByteArray) {n : Nat} (h : ∀ k, k < n → posN s k < s.size) : ∀ {i j : Nat}, i < j → j ≤ n → posN s i < posN s j := by
  intro i j
  induction j with
  | zero => intro h1; omega
  | succ j ih =>
    intro h1 h2
    have h3 := (decode_fits s (posN s j) (h j (by omega))).1
    have h4 : posN s j < posN s (j + 1) := by simp only [posN]; omega
    rcases Nat.lt_succ_iff_lt_or_eq.1 h1 with h5 | h5
    · have := ih h5 (by omega); omega
    · subst h5; exact h4
theorem posN_le_size (s : ByteArray) {n : Nat} (h : ∀ k, k < n → posN s k < s.size) : posN s n ≤ s.size := by
  cases n with
  | zero => simp [posN]
  | succ n => exact (decode_fits s (posN s n) (h n (by omega))).2.1
theorem posN_ge (s : ByteArray) {n : Nat} (h : ∀ k, k < n → posN s k < s.size) : n ≤ posN s n := by
  induction n with
  | zero => omega
  | succ n ih =>
    have := ih fun k hk => h k (by omega)
    have := posN_lt s h (show n < n + 1 by omega) (Nat.le_refl _)
    omega
/-- There is such a number. -/
theorem Cnt.exists (s : ByteArray) : ∃ n, Cnt s n := by
  have key : ∀ d n, (∀ k, k < n → posN s k < s.size) → s.size - posN s n ≤ d → ∃ m, Cnt s m := by
    intro d
    induction d with
    | zero =>
      intro n h hd
      have := posN_le_size s h
      exact ⟨n, by omega, h⟩
    | succ d ih =>
      intro n h hd
      have h1 := posN_le_size s h
      by_cases h2 : posN s n = s.size
      · exact ⟨n, h2, h⟩
      · have h3 : ∀ k, k < n + 1 → posN s k < s.size := fun k hk => by
          rcases Nat.lt_succ_iff_lt_or_eq.1 hk with h4 | h4
          · exact h k h4
          · subst h4; omega
        have := posN_lt s h3 (show n < n + 1 by omega) (Nat.le_refl _)
        exact ih (n + 1) h3 (by omega)
  exact key s.size 0 (fun k hk => by omega) (by simp [posN])
theorem Cnt.le {s : ByteArray} {n : Nat} (h : Cnt s n) : n ≤ s.size := by have := posN_ge s h.2; have := h.1; omega

/-- What stands from place i on decodes as it does in the whole. -/
theorem get!_extract (s : ByteArray) (i j : Nat) (h : i + j < s.size) : (s.extract i s.size).get! j = s.get! (i + j) := by
  have h1 : j < (s.extract i s.size).size := by rw [ByteArray.size_extract]; omega
  have e1 := get_at (s.extract i s.size) j h1
  have e2 := get_at s (i + j) h
  simp only [Nat.add_zero] at e1 e2
  rw [e1, e2]
  simp [ByteArray.getElem_eq_getElem_data]
theorem decodeN_far (n b0 b1 b2 b3 c1 c2 c3 : Nat) (h1 : 1 < n → b1 = c1) (h2 : 2 < n → b2 = c2) (h3 : 3 < n → b3 = c3) : Lib.decodeN n b0 b1 b2 b3 = Lib.decodeN n b0 c1 c2 c3 := by
  rcases Nat.lt_or_ge 1 n with k1 | k1
  · obtain rfl := h1 k1
    rcases Nat.lt_or_ge 2 n with k2 | k2
    · obtain rfl := h2 k2
      rcases Nat.lt_or_ge 3 n with k3 | k3
      · obtain rfl := h3 k3; rfl
      · simp only [Lib.decodeN, show ¬ (3 < n) by omega, false_and, and_false, if_false]
    · simp only [Lib.decodeN, show ¬ (2 < n) by omega, show ¬ (3 < n) by omega, false_and, and_false, if_false]
  · simp only [Lib.decodeN, show ¬ (1 < n) by omega, false_and, and_false, if_false]
theorem decode_extract (s : ByteArray) (i : Nat) (h : i < s.size) : Utf8.decode (s.extract i s.size) 0 = Utf8.decode s i := by
  rw [Lib.decode_at, Lib.decode_at, ByteArray.size_extract]
  have e0 := get!_extract s i 0 (by omega)
  simp only [Nat.add_zero, Nat.zero_add, Nat.sub_zero, Nat.min_self] at e0 ⊢
  rw [e0]
  refine decodeN_far _ _ _ _ _ _ _ _ (fun hk => ?_) (fun hk => ?_) (fun hk => ?_)
  · rw [get!_extract s i 1 (by omega)]
  · rw [get!_extract s i 2 (by omega)]
  · rw [get!_extract s i 3 (by omega)]
end Go.Proofs.YtbhcgjahlfpjoaaDoor
namespace Go.Proofs.YtbhcgjahlfpjoaaDoor
open Go.RowKit

/-- The cells of runes with places. -/
def symCells (l : List (Int × Nat)) : List Value := l.flatMap fun p => [.int .i32 p.1, .int .i64 (p.2 : Int)]
def runeAt (l : List (Int × Nat)) (i : Int) : Int := if i < 0 then -1 else match l[i.toNat]? with | some p => p.1 | none => -1
def offAt (l : List (Int × Nat)) (i : Int) : Int := if i < 0 then -1 else match l[i.toNat]? with | some p => (p.2 : Int) | none => -1
def byteVals (s : List UInt8) : List Value := s.map fun c => .int .u8 (c.toNat : Int)

theorem symCells_length (l : List (Int × Nat)) : (symCells l).length = l.length * 2 := by
  induction l with
  | nil => rfl
  | cons p l ih => simp only [symCells, List.flatMap_cons, List.length_append, List.length_cons, List.length_nil] at *; omega
theorem symCells_at (l : List (Int × Nat)) (i : Nat) (p : Int × Nat) (h : l[i]? = some p) : (symCells l)[i * 2]? = some (.int .i32 p.1) ∧ (symCells l)[i * 2 + 1]? = some (.int .i64 (p.2 : Int)) := by
  induction l generalizing i with
  | nil => simp at h
  | cons q l ih =>
    cases i with
    | zero =>
      simp at h
      subst h
      exact ⟨rfl, rfl⟩
    | succ i =>
      simp at h
      have := ih i h
      have e1 : (i + 1) * 2 = i * 2 + 1 + 1 := by omega
      rw [e1]
      exact this
theorem symCells_append (l m : List (Int × Nat)) : symCells (l ++ m) = symCells l ++ symCells m := by simp [symCells]

/-- A block holds runes with places, and the text. -/
def SymsAt (w : World) (lo U g : Nat) (l : List (Int × Nat)) (s : List UInt8) : Prop :=
  lo ≤ g ∧ g < U ∧ ∃ A c T tc, w.cell? ⟨g, 0, none⟩ = some (.slice A l.length c) ∧ w.cell? ⟨g, 1, none⟩ = some (.slice T s.length tc) ∧ Rd w lo U A (symCells l) ∧ Rd w lo U T (byteVals s) ∧
    l.length ≤ c ∧ c ≤ maxLen ∧ s.length ≤ tc ∧ tc ≤ maxLen
theorem SymsAt.same {w w' : World} {lo U g : Nat} {l : List (Int × Nat)} {s : List UInt8} (h : SymsAt w lo U g l s) (hs : Same lo U w w') : SymsAt w' lo U g l s := by
  obtain ⟨h1, h2, A, c, T, tc, a, b, d, e, r⟩ := h
  exact ⟨h1, h2, A, c, T, tc, (hs.cell (p := ⟨g, 0, none⟩) h1 h2).trans a, (hs.cell (p := ⟨g, 1, none⟩) h1 h2).trans b, d.same hs, e.same hs, r⟩
theorem SymsAt.drewN {w : World} {lo U g : Nat} {l : List (Int × Nat)} {s : List UInt8} (h : SymsAt w lo U g l s) (n : Nat) : SymsAt (w.drewN n) lo U g l s := h.same ((Same.refl _ _ _).drewN n)
theorem SymsAt.mono {w : World} {lo U g lo' U' : Nat} {l : List (Int × Nat)} {s : List UInt8} (h : SymsAt w lo U g l s) (a : lo' ≤ lo) (b : U ≤ U') : SymsAt w lo' U' g l s := by
  obtain ⟨h1, h2, A, c, T, tc, a', b', d, e, r⟩ := h
  exact ⟨by omega, by omega, A, c, T, tc, a', b', d.mono a b, e.mono a b, r⟩

section
variable {w : World} {lo U g : Nat} {l : List (Int × Nat)} {s : List UInt8}
theorem len_any (h : SymsAt w lo U g l s) : Calls Tryd.prog 17 #[.pointer (some ⟨g, 0, none⟩)] w fun e w' => e = .returned (.int .i64 ((l.length : Int) - 1)) ∧ w = w' := by
  obtain ⟨_, _, A, c, T, tc, hc, _, _, _, h1, h2, _, _⟩ := h
  unfold maxLen at h2
  go_enter Tryd.func17, Tryd.ntmps17
  go_wp2
  go_ret
  exact ⟨rfl, rfl⟩

theorem rune_any (h : SymsAt w lo U g l s) (i : Int) : Calls Tryd.prog 30 #[.pointer (some ⟨g, 0, none⟩), .int .i64 i] w fun e w' => e = .returned (.int .i32 (runeAt l i)) ∧ w = w' := by
  obtain ⟨_, _, A, c, T, tc, hc, _, hA, _, h1, h2, _, _⟩ := h
  unfold maxLen at h2
  by_cases hi : i < 0
  · have e1 : runeAt l i = -1 := by simp [runeAt, hi]
    rw [e1]
    go_enter Tryd.func30, Tryd.ntmps30
    go_wp2
    go_ret
    exact ⟨rfl, rfl⟩
  · obtain ⟨k, rfl⟩ := Int.eq_ofNat_of_zero_le (by omega : 0 ≤ i)
    by_cases hk : k < l.length
    · obtain ⟨p, hp⟩ : ∃ p, l[k]? = some p := ⟨_, List.getElem?_eq_getElem hk⟩
      have e1 : runeAt l (k : Int) = p.1 := by simp [runeAt, hi, hp]
      rw [e1]
      obtain ⟨b, off, rfl, _, _, hcell⟩ := hA (by rw [symCells_length]; omega)
      have c1 := hcell _ _ (symCells_at l k p hp).1
      clear hcell hp e1
      go_enter Tryd.func30, Tryd.ntmps30
      go_wp2
      go_ret
      exact ⟨rfl, rfl⟩
    · have e1 : runeAt l (k : Int) = -1 := by simp [runeAt, hi, List.getElem?_eq_none (by omega : l.length ≤ k)]
      rw [e1]
      go_enter Tryd.func30, Tryd.ntmps30
      go_wp2
      go_ret
      exact ⟨rfl, rfl⟩

end

/-- Is a rune a word's? -/
def wordB (c : Int) : Bool := decide (48 ≤ c ∧ c ≤ 57 ∨ 65 ≤ c ∧ c ≤ 90 ∨ 97 ≤ c ∧ c ≤ 122 ∨ c = 95)
/-- What a place between two runes is (-1: there is none). -/
def atOf (b c : Int) : Int :=
  (if (!wordB b == wordB c) = true then 16 else 32) + (if (b == -1) = true then 5 else if (b == 10) = true then 4 else 0) + (if (c == -1) = true then 10 else if (c == 10) = true then 8 else 0)
def atAt (l : List (Int × Nat)) (i : Int) : Int := if i < 0 ∨ (l.length : Int) - 1 < i then 0 else atOf (runeAt l (i - 1)) (runeAt l i)

theorem retBn {a b : Bool} (h : a = b) : Ending.returned (.bool a) = .returned (.bool b) := by rw [h]
theorem retIn {k : IntKind} {a b : Int} (h : a = b) : Ending.returned (.int k a) = .returned (.int k b) := by rw [h]

theorem wordB_true {c : Int} (h : 48 ≤ c ∧ c ≤ 57 ∨ 65 ≤ c ∧ c ≤ 90 ∨ 97 ≤ c ∧ c ≤ 122 ∨ c = 95) : true = wordB c := by unfold wordB; exact (decide_eq_true h).symm
theorem wordB_false {c : Int} (h : ¬ (48 ≤ c ∧ c ≤ 57 ∨ 65 ≤ c ∧ c ≤ 90 ∨ 97 ≤ c ∧ c ≤ 122 ∨ c = 95)) : false = wordB c := by unfold wordB; exact (decide_eq_false h).symm

theorem word_any (c : Int) (w : World) : Calls Tryd.prog 44 #[.int .i32 c] w fun e w' => e = .returned (.bool (wordB c)) ∧ w = w' := by
  by_cases h95 : c = 95
  · subst h95
    go_enter Tryd.func44, Tryd.ntmps44
    go_wp2
    go_ret
    exact ⟨retBn (wordB_true (by omega)), rfl⟩
  · go_enter Tryd.func44, Tryd.ntmps44
    go_wp2
    all_goals (go_ret; first | exact ⟨retBn (wordB_true (by omega)), rfl⟩ | exact ⟨retBn (wordB_false (by omega)), rfl⟩)

theorem refWord_any (c : Int) (w : World) : Calls Tryd.prog 67 #[.int .i32 c] w fun e w' => e = .returned (.bool (wordB c)) ∧ w = w' := by
  by_cases h95 : c = 95
  · subst h95
    go_enter Tryd.func67, Tryd.ntmps67
    go_wp2
    go_ret
    exact ⟨retBn (wordB_true (by omega)), rfl⟩
  · go_enter Tryd.func67, Tryd.ntmps67
    go_wp2
    all_goals (go_ret; first | exact ⟨retBn (wordB_true (by omega)), rfl⟩ | exact ⟨retBn (by unfold wordB; rw [Bool.eq_iff_iff]; simp; omega), rfl⟩)

set_option maxHeartbeats 2000000 in
theorem at_any {w : World} {lo U g : Nat} {l : List (Int × Nat)} {s : List UInt8} (h : SymsAt w lo U g l s) (i : Int) (_h1 : -9223372036854775808 < i) : Calls Tryd.prog 25 #[.pointer (some ⟨g, 0, none⟩), .int .i64 i] w fun e w' => e = .returned (.int .i64 (atAt l i)) ∧ ∃ n, w' = w.drewN n := by
  by_cases hi : i < 0
  · have e1 : atAt l i = 0 := by simp [atAt, hi]
    rw [e1]
    go_enter Tryd.func25, Tryd.ntmps25
    go_wp2
    go_ret
    exact ⟨rfl, 0, rfl⟩
  · by_cases hi2 : (l.length : Int) - 1 < i
    · have e1 : atAt l i = 0 := by simp [atAt, hi2]
      rw [e1]
      go_enter Tryd.func25, Tryd.ntmps25
      go_wp2_with (go_at_call 17; refine (len_any h).mono ?_; rintro e w' ⟨rfl, rfl⟩)
      go_ret
      exact ⟨rfl, 0, rfl⟩
    · have e1 : atAt l i = atOf (runeAt l (i - 1)) (runeAt l i) := by unfold atAt; rw [if_neg (by omega)]
      rw [e1]
      clear e1
      have cR := fun n j => (rune_any (h.drewN n) j).mono fun _ _ ⟨a, b⟩ => (⟨a, b.symm⟩ : _ ∧ _)
      have cL := len_any h
      have hm : (l.length : Int) ≤ 9223372036854775807 := by obtain ⟨_, _, _, _, _, _, _, _, _, _, a, b, _⟩ := h; unfold maxLen at b; omega
      clear h
      go_enter Tryd.func25, Tryd.ntmps25
      go_wp2_with (go_at_call 17; refine cL.mono ?_; rintro e w' ⟨rfl, rfl⟩)
      go_quiet ((go_at_call 30; exact Calls.quiet_of_same (cR _ _)))
      clear cR cL
      generalize hb : runeAt l (i - 1) = b
      generalize hc : runeAt l i = c
      have HB := Lib.hid hb
      have HC := Lib.hid hc
      clear hb hc
      go_wp2_with (go_at_call 44; refine (word_any _ _).mono ?_; rintro e w' ⟨rfl, rfl⟩)
      all_goals (go_ret; rw [HB.out, HC.out]; exact ⟨retIn (by simp only [atOf, *]; rfl), _, rfl⟩)
end Go.Proofs.YtbhcgjahlfpjoaaDoor
namespace Go.Proofs.YtbhcgjahlfpjoaaDoor
open Go.RowKit

/-- The runes with places, and the end. -/
def full (m : List (Int × Nat)) (e : Nat) : List (Int × Nat) := m ++ [(-1, e)]

def i32s (l : List Int) : List Value := l.map (Value.int .i32)
def i64n (l : List Int) : List Value := l.map (Value.int .i64)
def offsOf (m : List (Int × Nat)) (e : Nat) : List Int := (full m e).map fun p => (p.2 : Int)

theorem i32s_at {l : List Int} {k : Nat} {x : Int} (h : l[k]? = some x) : (i32s l)[k]? = some (.int .i32 x) := by simp [i32s, h]
theorem i64n_at {l : List Int} {k : Nat} {x : Int} (h : l[k]? = some x) : (i64n l)[k]? = some (.int .i64 x) := by simp [i64n, h]
theorem full_length (m : List (Int × Nat)) (e : Nat) : (full m e).length = m.length + 1 := by simp [full]
theorem offsOf_length (m : List (Int × Nat)) (e : Nat) : (offsOf m e).length = m.length + 1 := by simp [offsOf, full]
theorem offsOf_at (m : List (Int × Nat)) (e : Nat) (k : Nat) (h : k < m.length + 1) : (offsOf m e)[k]? = some (offAt (full m e) (k : Int)) := by
  have hk : k < (full m e).length := by rw [full_length]; omega
  simp [offsOf, offAt, List.getElem?_eq_getElem hk, show ¬ ((k : Int) < 0) by omega]
theorem runes_at (m : List (Int × Nat)) (e : Nat) (k : Nat) (h : k < m.length) : (m.map (·.1))[k]? = some (runeAt (full m e) (k : Int)) := by
  simp [runeAt, full, List.getElem?_append_left h, List.getElem?_eq_getElem h, show ¬ ((k : Int) < 0) by omega]
theorem runeAt_out (m : List (Int × Nat)) (e : Nat) (i : Int) (h : i < 0 ∨ (m.length : Int) ≤ i) : runeAt (full m e) i = -1 := by
  unfold runeAt
  by_cases hi : i < 0
  · simp [hi]
  · obtain ⟨k, rfl⟩ := Int.eq_ofNat_of_zero_le (by omega : 0 ≤ i)
    rw [if_neg hi]
    simp only [Int.toNat_natCast]
    rcases Nat.lt_or_ge k (m.length + 1) with hk | hk
    · have : k = m.length := by omega
      subst this
      simp [full]
    · rw [List.getElem?_eq_none (by rw [full_length]; omega)]
theorem offAt_out (m : List (Int × Nat)) (e : Nat) (i : Int) (h : i < 0 ∨ (m.length : Int) + 1 ≤ i) : offAt (full m e) i = -1 := by
  unfold offAt
  by_cases hi : i < 0
  · simp [hi]
  · obtain ⟨k, rfl⟩ := Int.eq_ofNat_of_zero_le (by omega : 0 ≤ i)
    rw [if_neg hi]
    simp only [Int.toNat_natCast]
    rw [List.getElem?_eq_none (by rw [full_length]; omega)]

/-- A block holds the reference's input. -/
def RefAt (w : World) (lo U g : Nat) (m : List (Int × Nat)) (e : Nat) (s : List UInt8) : Prop :=
  lo ≤ g ∧ g < U ∧ ∃ B bc R rc O oc, w.cell? ⟨g, 1, none⟩ = some (.slice B s.length bc) ∧ w.cell? ⟨g, 2, none⟩ = some (.slice R m.length rc) ∧ w.cell? ⟨g, 3, none⟩ = some (.slice O (m.length + 1) oc) ∧
    Rd w lo U B (byteVals s) ∧ Rd w lo U R (i32s (m.map (·.1))) ∧ Rd w lo U O (i64n (offsOf m e)) ∧ s.length ≤ bc ∧ bc ≤ maxLen ∧ m.length + 1 ≤ oc ∧ oc ≤ maxLen
theorem RefAt.same {w w' : World} {lo U g : Nat} {m : List (Int × Nat)} {e : Nat} {s : List UInt8} (h : RefAt w lo U g m e s) (hs : Same lo U w w') : RefAt w' lo U g m e s := by
  obtain ⟨h1, h2, B, bc, R, rc, O, oc, a, b, c, d, f, k, r⟩ := h
  exact ⟨h1, h2, B, bc, R, rc, O, oc, (hs.cell (p := ⟨g, 1, none⟩) h1 h2).trans a, (hs.cell (p := ⟨g, 2, none⟩) h1 h2).trans b, (hs.cell (p := ⟨g, 3, none⟩) h1 h2).trans c, d.same hs, f.same hs, k.same hs, r⟩
theorem RefAt.drewN {w : World} {lo U g : Nat} {m : List (Int × Nat)} {e : Nat} {s : List UInt8} (h : RefAt w lo U g m e s) (n : Nat) : RefAt (w.drewN n) lo U g m e s := h.same ((Same.refl _ _ _).drewN n)

section
variable {w : World} {lo U g : Nat} {m : List (Int × Nat)} {e : Nat} {s : List UInt8}
theorem refLen_any (h : RefAt w lo U g m e s) : Calls Tryd.prog 33 #[.pointer (some ⟨g, 0, none⟩)] w fun e' w' => e' = .returned (.int .i64 (m.length : Int)) ∧ w = w' := by
  obtain ⟨_, _, B, bc, R, rc, O, oc, a, b, c, _, _, _, _, _, h1, h2⟩ := h
  unfold maxLen at h2
  go_enter Tryd.func33, Tryd.ntmps33
  go_wp2
  go_ret
  exact ⟨rfl, rfl⟩

theorem refRune_any (h : RefAt w lo U g m e s) (i : Int) : Calls Tryd.prog 62 #[.pointer (some ⟨g, 0, none⟩), .int .i64 i] w fun e' w' => e' = .returned (.int .i32 (runeAt (full m e) i)) ∧ w = w' := by
  obtain ⟨_, _, B, bc, R, rc, O, oc, a, b, c, _, hR, _, _, _, h1, h2⟩ := h
  unfold maxLen at h2
  by_cases hi : i < 0
  · rw [runeAt_out m e i (.inl hi)]
    go_enter Tryd.func62, Tryd.ntmps62
    go_wp2
    go_ret
    exact ⟨rfl, rfl⟩
  · obtain ⟨k, rfl⟩ := Int.eq_ofNat_of_zero_le (by omega : 0 ≤ i)
    by_cases hk : k < m.length
    · obtain ⟨b', off, rfl, _, _, hcell⟩ := hR (by simp [i32s]; omega)
      have c1 := hcell _ _ (i32s_at (runes_at m e k hk))
      clear hcell
      go_enter Tryd.func62, Tryd.ntmps62
      go_wp2
      go_ret
      exact ⟨rfl, rfl⟩
    · rw [runeAt_out m e k (.inr (by omega))]
      go_enter Tryd.func62, Tryd.ntmps62
      go_wp2
      go_ret
      exact ⟨rfl, rfl⟩

/-- The first place at which an offset stands. -/
def placeFrom (os : List Int) (off : Int) : Int := match os.findIdx? (· == off) with | some i => (i : Int) | none => -1

end
end Go.Proofs.YtbhcgjahlfpjoaaDoor
namespace Go.Proofs.YtbhcgjahlfpjoaaDoor
open Go.RowKit

def foundAt (l : List (Int × Nat)) (L : Nat) (off : Int) : Bool := match l[L]? with | some p => (p.2 : Int) == off | none => false
theorem retTB {v : Value} {a b : Bool} (h : a = b) : Ending.returned (.tuple #[v, .bool a]) = .returned (.tuple #[v, .bool b]) := by rw [h]
theorem foundAt_some {l : List (Int × Nat)} {a : Nat} {off : Int} {p : Int × Nat} (h : l[a]? = some p) : ((p.2 : Int) - off == 0) = foundAt l a off := by
  simp only [foundAt, h]; rw [Bool.eq_iff_iff, beq_iff_eq, beq_iff_eq]; omega
theorem foundAt_none {l : List (Int × Nat)} {a : Nat} {off : Int} (h : l[a]? = none) : false = foundAt l a off := by simp [foundAt, h]

/-- The place of an offset: of l's (rising) offsets. -/
def placeOf (l : List (Int × Nat)) (off : Int) : Int := if off < 0 then -1 else placeFrom (l.map fun p => (p.2 : Int)) off

def Rising (l : List (Int × Nat)) : Prop := l.Pairwise fun p q => p.2 < q.2

theorem rising_lt {l : List (Int × Nat)} (h : Rising l) {i j : Nat} {p q : Int × Nat} (hi : l[i]? = some p) (hj : l[j]? = some q) (hij : i < j) : p.2 < q.2 := by
  obtain ⟨hi', rfl⟩ := List.getElem?_eq_some_iff.1 hi
  obtain ⟨hj', rfl⟩ := List.getElem?_eq_some_iff.1 hj
  exact List.pairwise_iff_getElem.1 h i j hi' hj' hij

/-- How many offsets lie below. -/
def lbOf (l : List (Int × Nat)) (off : Int) : Nat := (l.filter fun p => decide ((p.2 : Int) < off)).length
theorem lbOf_le (l : List (Int × Nat)) (off : Int) : lbOf l off ≤ l.length := List.length_filter_le _ _
theorem lbOf_iff {l : List (Int × Nat)} (h : Rising l) (off : Int) : ∀ (k : Nat) (p : Int × Nat), l[k]? = some p → ((p.2 : Int) < off ↔ k < lbOf l off) := by
  induction l with
  | nil => intro k p hp; simp at hp
  | cons q l ih =>
    intro k p hp
    have hr : Rising l := (List.pairwise_cons.1 h).2
    have hq := (List.pairwise_cons.1 h).1
    by_cases c : (q.2 : Int) < off
    · have e : lbOf (q :: l) off = lbOf l off + 1 := by simp [lbOf, c]
      rw [e]
      cases k with
      | zero => simp at hp; subst hp; constructor <;> intro _ <;> omega
      | succ k => simp at hp; rw [ih hr k p hp]; omega
    · have e : lbOf (q :: l) off = 0 := by
        simp only [lbOf, List.filter_cons, c, decide_false, Bool.false_eq_true, if_false]
        rw [List.length_eq_zero_iff, List.filter_eq_nil_iff]
        intro x hx
        have := hq x hx
        simp; omega
      rw [e]
      have : q.2 ≤ p.2 := by
        cases k with
        | zero => simp at hp; subst hp; exact Nat.le_refl _
        | succ k => simp at hp; exact Nat.le_of_lt (hq p (List.mem_of_getElem? hp))
      omega
theorem placeOf_eq {l : List (Int × Nat)} (h : Rising l) (off : Int) : placeOf l off = if off < 0 ∨ foundAt l (lbOf l off) off = false then -1 else (lbOf l off : Int) := by
  unfold placeOf
  by_cases h0 : off < 0
  · simp [h0]
  · simp only [h0, if_false, false_or]
    have hiff := lbOf_iff h off
    unfold foundAt placeFrom
    cases hp : l[lbOf l off]? with
    | none =>
      simp only [if_true]
      have : (l.map fun p => (p.2 : Int)).findIdx? (· == off) = none := by
        rw [List.findIdx?_eq_none_iff]
        intro x hx
        obtain ⟨q, hq, rfl⟩ := List.mem_map.1 hx
        obtain ⟨k, hk, rfl⟩ := List.getElem_of_mem hq
        have h1 := (hiff k l[k] (List.getElem?_eq_getElem hk)).2 (by have := List.getElem?_eq_none_iff.1 hp; omega)
        simp; omega
      simp [this]
    | some p =>
      obtain ⟨hlt, hpe⟩ := List.getElem?_eq_some_iff.1 hp
      by_cases he : (p.2 : Int) = off
      · have : (l.map fun p => (p.2 : Int)).findIdx? (· == off) = some (lbOf l off) := by
          rw [List.findIdx?_eq_some_iff_getElem]
          refine ⟨by simpa using hlt, by simp [hpe, he], fun j hj => ?_⟩
          have h1 := (hiff j l[j] (List.getElem?_eq_getElem (by omega))).2 hj
          simp; omega
        simp [this, he]
      · have : (l.map fun p => (p.2 : Int)).findIdx? (· == off) = none := by
          rw [List.findIdx?_eq_none_iff]
          intro x hx
          obtain ⟨q, hq, rfl⟩ := List.mem_map.1 hx
          obtain ⟨k, hk, rfl⟩ := List.getElem_of_mem hq
          have h1 := hiff k l[k] (List.getElem?_eq_getElem hk)
          rcases Nat.lt_trichotomy k (lbOf l off) with h2 | h2 | h2
          · have := h1.2 h2; simp; omega
          · have : l[k] = p := by subst hpe; simp [h2]
            rw [this]; simpa using he
          · have h3 := rising_lt h hp (List.getElem?_eq_getElem hk) h2
            have h4 : ¬ ((p.2 : Int) < off) := fun h => by have := (hiff _ p hp).1 h; omega
            simp; omega
        simp [this, he]

end Go.Proofs.YtbhcgjahlfpjoaaDoor
namespace Go.Proofs.YtbhcgjahlfpjoaaDoor
open Go.RowKit

theorem elB : ElemOK Tryd.prog 29 5 1 1 := .mk' (z := .int .u8 0) Tryd.underlying29 (by kernel_rfl) rfl (by decide)
theorem byteVals_one (s : List UInt8) : ∀ u ∈ byteVals s, u.oneCell' = true := by
  intro u hu
  obtain ⟨_, _, rfl⟩ := List.mem_map.1 hu
  rfl
theorem byteVals_length (s : List UInt8) : (byteVals s).length = s.length := by simp [byteVals]

theorem cloneB_any {w : World} {lo U : Nat} {A : Option Addr} {n c : Nat} {s : List UInt8} (hR : Rd w lo U A (byteVals s)) (hl : s.length = n) (hA : A = none → n = 0) (hbig : n ≤ 140737488355328) :
    Calls Tryd.prog 38 #[.slice A n c] w fun e w' => ∃ v, e = .returned v ∧ w'.ownsRow w.heap.size 5 1 v n (byteVals s) ∧ Below w.heap.size w w' := by
  have q := fun (w : World) (a : Option Addr) (n c n' c' : Nat) => Lib.run_eql_slice_nil (P := Tryd.prog) w _ _ a n c n' c' Tryd.underlying29
  have hm : n ≤ maxLen := by unfold maxLen; omega
  cases hA' : A with
  | none =>
    obtain rfl : n = 0 := hA hA'
    obtain rfl : s = [] := List.eq_nil_of_length_eq_zero hl
    subst hA'
    clear hR hA
    go_enter Tryd.func38, Tryd.ntmps38
    go_wp2
    go_ret
    exact ⟨_, rfl, World.ownsRow_nil _ _ _ _, Below.refl _ _⟩
  | some ad =>
    rw [← hA']
    have hno : A.isNone = false := by rw [hA']; rfl
    have hA2 : A = none → n = 0 := hA
    clear hA' hA
    have hown := World.ownsRow_made (base := w.heap.size) (size := 1) (e := 5) w #[] 0 (Nat.le_refl _) (Nat.zero_le _) rfl
    have hl1 : (byteVals s).length = n * 1 := by rw [byteVals_length]; omega
    have h1 := byteVals_one s
    by_cases h0 : n = 0
    · subst h0
      obtain rfl : s = [] := List.eq_nil_of_length_eq_zero hl
      clear hR hl
      go_enter Tryd.func38, Tryd.ntmps38
      go_wp2_with (at_builtin; refine wpList_app _ rfl _ _ 29 rfl w.heap.size 5 elB _ _ _ rfl hown 0 0 A 0 c [] rfl (fun _ => rfl) rfl Rd.nil (by simp) (by omega) (by omega) (by simp) ?_; intro v w1 hown1 hg hb hn)
      go_wp2
      go_ret
      exact ⟨_, rfl, hown1, ((Below.refl _ _).alloc (Nat.le_refl _) _).grown hg (by simp) (fun k hk => (hown.lt k hk).1)⟩
    · have hR2 : Rd (w.alloc (.cells #[] 5)) 0 w.heap.size A (byteVals s) := fun hp => by
        obtain ⟨b, off, hA, h1, h2, hc⟩ := hR hp
        have hb : b < w.heap.size := by
          have hs : 0 < s.length := by omega
          have := hc 0 (.int .u8 s[0].toNat) (by simp [byteVals, List.getElem?_eq_getElem hs])
          exact World.block_lt_of_cell? w _ this
        exact ⟨b, off, hA, Nat.zero_le _, hb, fun j u hu => (World.cell?_alloc_past _ _ _ hb).trans (hc j u hu)⟩
      clear hR hl
      go_enter Tryd.func38, Tryd.ntmps38
      go_wp2_with (at_builtin; refine wpList_app _ rfl _ _ 29 rfl w.heap.size 5 elB _ _ _ rfl hown 0 w.heap.size A n c (byteVals s) rfl hA2 hl1 hR2 h1 (by omega) (by omega) (by simp) ?_; intro v w1 hown1 hg hb hn)
      go_wp2
      go_ret
      simp only [Nat.zero_add, List.nil_append] at hown1
      exact ⟨_, rfl, hown1, ((Below.refl _ _).alloc (Nat.le_refl _) _).grown hg (by simp) (fun k hk => (hown.lt k hk).1)⟩

/-- The bytes between two places. -/
def bytesOf (l : List (Int × Nat)) (s : List UInt8) (i j : Int) : List UInt8 :=
  if i < 0 ∨ j < i ∨ (l.length : Int) ≤ j then [] else (s.take (offAt l j).toNat).drop (offAt l i).toNat

/-- The places do not fall, and end within the text. -/
def Fits (l : List (Int × Nat)) (n : Nat) : Prop := (∀ i j : Int, 0 ≤ i → i ≤ j → j < l.length → 0 ≤ offAt l i ∧ offAt l i ≤ offAt l j) ∧ ∀ j : Int, 0 ≤ j → j < l.length → offAt l j ≤ n

theorem offAt_get {l : List (Int × Nat)} {k : Nat} (h : k < l.length) : ∃ p, l[k]? = some p ∧ offAt l (k : Int) = (p.2 : Int) := by
  refine ⟨l[k], List.getElem?_eq_getElem h, ?_⟩
  simp [offAt, List.getElem?_eq_getElem h, show ¬ ((k : Int) < 0) by omega]
theorem bytesOf_vals (l : List (Int × Nat)) (s : List UInt8) (i j : Int) (h : ¬ (i < 0 ∨ j < i ∨ (l.length : Int) ≤ j)) : byteVals (bytesOf l s i j) = ((byteVals s).take (offAt l j).toNat).drop (offAt l i).toNat := by
  unfold bytesOf; rw [if_neg h]; simp [byteVals, List.map_drop, List.map_take]

end Go.Proofs.YtbhcgjahlfpjoaaDoor
namespace Go.Proofs.YtbhcgjahlfpjoaaDoor
open Go.RowKit

theorem full_fits_len (m : List (Int × Nat)) (e : Nat) : (full m e).length = m.length + 1 := full_length m e

theorem tabs_below {a b : Nat} {w w' : World} (h : Lib.Utf8Tabs a b w) (hb : Below w.heap.size w w') : Lib.Utf8Tabs a b w' := by
  refine ⟨fun c hc => ?_, fun i hi => ⟨?_, ?_⟩⟩
  · have := h.1 c hc; exact (hb.cell (World.block_lt_of_cell? w _ this)).trans this
  · have := (h.2 i hi).1; exact (hb.cell (World.block_lt_of_cell? w _ this)).trans this
  · have := (h.2 i hi).2; exact (hb.cell (World.block_lt_of_cell? w _ this)).trans this

theorem blen (s : ByteArray) : s.data.toList.length = s.size := Array.length_toList
theorem byteVals_at (s : ByteArray) (j : Nat) (h : j < s.size) : (byteVals s.data.toList)[j]? = some (.int .u8 (s.get! j).toNat) := by
  have e := get_at s j h
  simp only [Nat.add_zero] at e
  rw [e]
  simp [byteVals, ByteArray.getElem_eq_getElem_data, h]

/-- One rune off 'text[i:]'. -/
theorem dec_any {w : World} (hT : Lib.Utf8Tabs 0 1 w) {lo U : Nat} {A : Option Addr} {n c : Nat} {s : ByteArray} (hR : Rd w lo U A (byteVals s.data.toList)) (hn : s.size = n) (hc : n ≤ c) (i : Nat) (hi : i < n) :
    Calls Tryd.prog 39 #[.slice (if c = i then A else Option.map (fun x => x.add i) A) (n - i) (c - i)] w fun e w' => e = .returned (.tuple #[.int .i32 ((Utf8.decode s i).1 : Nat), .int .i64 ((Utf8.decode s i).2 : Nat)]) ∧ Below w.heap.size w w' := by
  subst hn
  obtain ⟨b, off, rfl, _, _, hcell⟩ := hR (by rw [byteVals_length, blen]; omega)
  rw [if_neg (by omega)]
  have hsz : (s.extract i s.size).size = s.size - i := by rw [ByteArray.size_extract]; omega
  have h := Any7.utf8_DecodeRune Tryd.lays7n32 (s.extract i s.size) b (off + i) (c - i) w hT (fun j hj => by
    rw [hsz] at hj
    have := hcell _ _ (byteVals_at s (i + j) (by omega))
    rw [get!_extract s i j (by omega), Nat.add_assoc]
    exact this)
  have hd : Lib.decodeGo (s.extract i s.size) = Utf8.decode s i := by
    unfold Lib.decodeGo
    rw [if_neg (by omega), decode_extract s i hi]
  rw [hd, hsz] at h
  have ha : Option.map (fun x => x.add i) (some (⟨b, off, none⟩ : Addr)) = some ⟨b, off + i, none⟩ := by
    simp only [Option.map_some, Addr.add]
    split <;> simp_all
  rw [ha]
  exact h
end Go.Proofs.YtbhcgjahlfpjoaaDoor
namespace Go.Proofs.YtbhcgjahlfpjoaaDoor
open Go.RowKit

theorem elS : ElemOK Tryd.prog 47 102 2 16 := .mk' (z := .agg #[.int .i32 0, .int .i64 0]) Tryd.underlying47 (by kernel_rfl) rfl (by decide)
theorem symCells_one (l : List (Int × Nat)) : ∀ u ∈ symCells l, u.oneCell' = true := by
  intro u hu
  simp only [symCells, List.mem_flatMap, List.mem_cons, List.not_mem_nil, or_false] at hu
  obtain ⟨p, _, rfl | rfl⟩ := hu <;> rfl

theorem grownBy_alloc' {w w' : World} {row : Option Nat} (h : w.grownBy w' row) (o : Obj) : w.grownBy (w'.alloc o) row :=
  ⟨h.os, h.tape, h.output, by have := h.size; simp; omega, fun k hk hr => (Below.heap_alloc _ _ _ (by have := h.size; omega)).trans (h.block k hk hr)⟩
theorem grownBy_setCell' {w w' : World} {g : Nat} (h : w.grownBy w' (some g)) (i : Nat) (u : Value) : w.grownBy (w'.setCell ⟨g, i, none⟩ u) (some g) :=
  ⟨h.os, h.tape, h.output, by have := h.size; simp [World.setCell]; omega, fun k hk hr => (Below.heap_setCell _ _ _ _ (fun e => hr (by rw [e]))).trans (h.block k hk hr)⟩
/-- A step that writes a row of the call's own. -/
theorem grownBy_own' {w w' w'' : World} {row r2 : Option Nat} (h : w.grownBy w' row) (h2 : w'.grownBy w'' r2) (hr : ∀ k, r2 = some k → w.heap.size ≤ k) : w.grownBy w'' row :=
  ⟨h2.os.trans h.os, h2.tape.trans h.tape, h2.output.trans h.output, Nat.le_trans h.size h2.size, fun k hk hne => (h2.block k (by have := h.size; omega) (fun e => by have := hr k e.symm; omega)).trans (h.block k hk hne)⟩
theorem ownsRow_far {w w' : World} {base : Nat} {e : TypeId} {size n : Nat} {v : Value} {xs : List Value} (h : w.ownsRow base e size v n xs) (hs : ∀ k, v.ownBlock = some k → w'.heap[k]? = w.heap[k]?) : w'.ownsRow base e size v n xs := by
  obtain ⟨h1, h2⟩ := h
  refine ⟨h1, ?_⟩
  rcases h2 with h2 | ⟨g, cap, cur, hv, hg, hh, r⟩
  · exact .inl h2
  · exact .inr ⟨g, cap, cur, hv, hg, (hs g (by rw [hv]; rfl)).trans hh, r⟩

/-- What holds when m runes have been read. -/
structure DecRel (w wr : World) (g : Nat) (t : TypeId) (cs : Array Value) (s : ByteArray) (m : Nat) (v : Value) : Prop where
  lt : ∀ k, k < m → posN s k < s.size
  it : wr.heap[w.heap.size]? = some (.stringIter s (posN s m))
  blk : Blk wr g t (cs.setIfInBounds 0 v)
  own : wr.ownsRow (w.heap.size + 1) 102 2 v m (symCells (preR s m))
  grown : w.grownBy wr (some g)

theorem run_next_ok {P : Program} {wr : World} {gi : Nat} {s : ByteArray} {p : Nat} (hit : wr.heap[gi]? = some (.stringIter s p)) (hp : p < s.size) : ∃ W1, (∀ ty, (Instr.next (.pointer (some ⟨gi, 0, none⟩)) true ty).run P wr = .ok (.tuple #[.bool true, .int .i64 (p : Int), .int .i32 ((Utf8.decode s p).1 : Nat)]) W1) ∧
    W1 = wr.iterAt gi s (p + (Utf8.decode s p).2) := ⟨_, fun ty => Lib.run_next_any_at wr gi s p ty hit hp, rfl⟩

/-- The step: one rune read, appended, stored back. -/
theorem DecRel.step {w wr W2 : World} {g : Nat} {t : TypeId} {cs : Array Value} {s : ByteArray} {m : Nat} {v v' : Value} (h : DecRel w wr g t cs s m v) (hg : g < w.heap.size) (ht : 102 ≠ t) (hp : posN s m < s.size)
    (hown : W2.ownsRow (w.heap.size + 1) 102 2 v' (m + 1) (symCells (preR s m) ++ [.int .i32 ((Utf8.decode s (posN s m)).1 : Nat), .int .i64 (posN s m : Int)]))
    (o : Obj) (hgr : ((wr.iterAt w.heap.size s (posN s (m + 1))).alloc o).grownBy W2 v.ownBlock) : 
    Blk W2 g t (cs.setIfInBounds 0 v) ∧ DecRel w (W2.setCell ⟨g, 0, none⟩ v') g t cs s (m + 1) v' := by
  have hlt : w.heap.size < wr.heap.size := (Array.getElem?_eq_some_iff.1 h.it).1
  have hb : ∀ k, v.ownBlock = some k → w.heap.size + 1 ≤ k := fun k hk => (h.own.lt k hk).1
  have hne : g ≠ w.heap.size := by omega
  have hgrown : w.grownBy ((wr.iterAt w.heap.size s (posN s (m + 1))).alloc o) (some g) := by
    have h1 : w.grownBy (wr.iterAt w.heap.size s (posN s (m + 1))) (some g) :=
      ⟨h.grown.os, h.grown.tape, h.grown.output, by rw [Lib.iterAt_size]; exact h.grown.size, fun k hk hr => (Lib.iterAt_other _ _ _ _ _ (by omega)).trans (h.grown.block k hk hr)⟩
    exact grownBy_alloc' h1 o
  have hsz : ((wr.iterAt w.heap.size s (posN s (m + 1))).alloc o).heap.size = wr.heap.size + 1 := by simp [Lib.iterAt_size]
  have hblk : Blk W2 g t (cs.setIfInBounds 0 v) := by
    refine (hgr.block g (by omega) (fun e => ?_)).trans ((Below.heap_alloc _ _ _ (by rw [Lib.iterAt_size]; omega)).trans ((Lib.iterAt_other _ _ _ _ _ hne).trans h.blk))
    have := hb g e.symm
    omega
  have hit : W2.heap[w.heap.size]? = some (.stringIter s (posN s (m + 1))) := by
    refine (hgr.block _ (by omega) (fun e => ?_)).trans ((Below.heap_alloc _ _ _ (by rw [Lib.iterAt_size]; omega)).trans (Lib.iterAt_heap _ _ _ _ _ h.it))
    have := hb _ e.symm
    omega
  refine ⟨hblk, ?_, ?_, ?_, ?_, ?_⟩
  · intro k hk
    rcases Nat.lt_succ_iff_lt_or_eq.1 hk with h1 | h1
    · exact h.lt k h1
    · subst h1; exact hp
  · exact (Below.heap_setCell _ _ _ _ (by exact Ne.symm hne)).trans hit
  · have := hblk.set 0 v'
    rwa [show (cs.setIfInBounds 0 v).setIfInBounds 0 v' = cs.setIfInBounds 0 v' by simp [Array.setIfInBounds_setIfInBounds]] at this
  · have he : symCells (preR s (m + 1)) = symCells (preR s m) ++ [.int .i32 ((Utf8.decode s (posN s m)).1 : Nat), .int .i64 (posN s m : Int)] := by rw [pre_succ, symCells_append]; rfl
    rw [he]
    exact ownsRow_far hown fun k hk => Below.heap_setCell _ _ _ _ (fun e => own_ne_blk hown hblk ht (by rw [hk, e]))
  · exact grownBy_setCell' (grownBy_own' hgrown hgr fun k hk => by have := hb k hk; omega) 0 v'

set_option maxHeartbeats 1000000 in
theorem decode_any {w : World} {g : Nat} {t : TypeId} {cs : Array Value} (hB : Blk w g t cs) (h0 : cs[0]? = some (.slice none 0 0)) (ht : 102 ≠ t) (s : ByteArray) (hs : s.size ≤ 1048576) :
    Calls Tryd.prog 40 #[.pointer (some ⟨g, 0, none⟩), .string s] w fun e w' => e = .returned (.tuple #[]) ∧ ∃ v n, Cnt s n ∧ Blk w' g t (cs.setIfInBounds 0 v) ∧ w'.ownsRow (w.heap.size + 1) 102 2 v (n + 1) (symCells (full (preR s n) s.size)) ∧ w.grownBy w' (some g) := by
  have hg := hB.lt
  have hcs0 : cs.setIfInBounds 0 (.slice none 0 0) = cs := by
    obtain ⟨l⟩ := cs
    cases l with
    | nil => simp at h0
    | cons a l => simp at h0; subst h0; simp [Array.setIfInBounds]
  have hstart : DecRel w (w.iter s 0) g t cs s 0 (.slice none 0 0) := ⟨fun k hk => by omega, World.iter_heap w s 0, by rw [hcs0]; exact hB.alloc _, World.ownsRow_nil _ _ _ _, World.grownBy_alloc w _ _⟩
  go_enter Tryd.func40, Tryd.ntmps40
  go_wp2_with fail
  go_loopg [4] (s.size + 1) (fun k o wr => ∃ m v, k = s.size + 1 - m ∧ DecRel w wr g t cs s m v)
  case atStart => exact ⟨0, _, rfl, hstart⟩
  case round =>
    obtain ⟨m, v, hgk, hrel⟩ := hrel
    have HG := Lib.hid hgk
    clear hgk hstart hcs0
    have hml : m ≤ s.size := Nat.le_trans (posN_ge s hrel.lt) (posN_le_size s hrel.lt)
    by_cases hp : posN s m < s.size
    · obtain ⟨W1, hnx, hW1⟩ := run_next_ok (P := Tryd.prog) hrel.it hp
      have hne : g ≠ w.heap.size := by omega
      have hl1 : w.heap.size < wr.heap.size := (Array.getElem?_eq_some_iff.1 hrel.it).1
      have hB1 : Blk W1 g t (cs.setIfInBounds 0 v) := by rw [hW1]; exact (Lib.iterAt_other _ _ _ _ _ hne).trans hrel.blk
      have c1 : W1.cell? ⟨g, 0, none⟩ = some v := by
        rw [hB1.cell]
        have : 0 < cs.size := (Array.getElem?_eq_some_iff.1 h0).1
        simp [this]
      have hO1 : W1.ownsRow (w.heap.size + 1) 102 2 v m (symCells (preR s m)) := by
        rw [hW1]
        exact ownsRow_far hrel.own fun k hk => Lib.iterAt_other _ _ _ _ _ (by have := (hrel.own.lt k hk).1; omega)
      have hsz : wr.heap.size = W1.heap.size := by rw [hW1, Lib.iterAt_size]
      have hdr := decode_rune s (posN s m)
      have hps : posN s m ≤ 1048576 := by omega
      have hW1' : W1 = wr.iterAt w.heap.size s (posN s (m + 1)) := hW1
      have HW := Lib.hid hW1'
      have HS := Lib.hid hsz
      have HP := Lib.hid hp
      have HR := Lib.hid hrel
      have hlw : w.heap.size < W1.heap.size := by omega
      clear hW1 hW1' hsz hrel hl1
      generalize hr : (Utf8.decode s (posN s m)).1 = r at hnx hdr
      have HRr := Lib.hid hr
      clear hr
      have e1 : (symCells (preR s m)).length = m * 2 := by rw [symCells_length, pre_length]
      have hst : ∀ W2 v', W2.ownsRow (w.heap.size + 1) 102 2 v' (m + 1) (symCells (preR s m) ++ [.int .i32 (r : Int), .int .i64 (posN s m : Int)]) →
          ∀ o, (W1.alloc o).grownBy W2 v.ownBlock → W2.cell? ⟨g, 0, none⟩ = some v ∧ W2.frozen? ⟨g, 0, none⟩ = false ∧ Hid (DecRel w (W2.setCell ⟨g, 0, none⟩ v') g t cs s (m + 1) v') := by
        intro W2 v' h1 o h2
        rw [← HRr.out] at h1
        rw [HW.out] at h2
        obtain ⟨h3, h4⟩ := DecRel.step HR.out hg ht HP.out h1 o h2
        have hsz0 : 0 < cs.size := (Array.getElem?_eq_some_iff.1 h0).1
        exact ⟨by rw [h3.cell]; simp [hsz0], h3.frozen 0, Lib.hid h4⟩
      have HST := Lib.hid hst
      clear hst
      go_wp2_with (at_builtin; refine wpList_app _ rfl _ _ 47 rfl (w.heap.size + 1) 102 elS v _ _ rfl (hO1.alloc _) 0 (W1.heap.size + 1) _ 1 1 [.int .i32 (r : Int), .int .i64 (posN s m : Int)] rfl (fun h => by cases h) rfl (Rd.new W1 _ _ _ (Nat.zero_le _) (by omega)) (by simp [Value.oneCell']) (by unfold maxLen; omega) (by omega) (by simp; omega) ?_; intro v' W2 hO2 hg2 hb2 hn2; obtain ⟨A', c', rfl, _, _⟩ := own_form hO2; obtain ⟨q1, q2, q3⟩ := HST.out _ _ hO2 _ hg2; clear hg2 hb2 hn2 hO2)
      go_roundg (s.size + 1 - (m + 1))
      case measure => have := HG.out; omega
      case rel => exact ⟨m + 1, _, rfl, q3.out⟩
    · have hend : posN s m = s.size := by have := posN_le_size s hrel.lt; omega
      have hcnt : Cnt s m := ⟨hend, hrel.lt⟩
      have hnx : ∀ ty, (Instr.next (.pointer (some ⟨w.heap.size, 0, none⟩)) true ty).run Tryd.prog wr = .ok (.tuple #[.bool false]) wr := fun ty => Lib.run_next_end_at wr _ s _ ty hrel.it (by omega)
      have hB1 := hrel.blk
      have hsz0 : 0 < cs.size := (Array.getElem?_eq_some_iff.1 h0).1
      have c1 : wr.cell? ⟨g, 0, none⟩ = some v := by rw [hB1.cell]; simp [hsz0]
      have hO1 := hrel.own
      have hgr := hrel.grown
      have hlw : w.heap.size < wr.heap.size := (Array.getElem?_eq_some_iff.1 hrel.it).1
      have HC := Lib.hid hcnt
      have hss : s.size ≤ 1048576 := hs
      have HB1 := Lib.hid hB1
      have HGr := Lib.hid hgr
      clear hrel hend hcnt hp hB1 hgr
      have e1 : (symCells (preR s m)).length = m * 2 := by rw [symCells_length, pre_length]
      have hst : ∀ W2 v', W2.ownsRow (w.heap.size + 1) 102 2 v' (m + 1) (symCells (preR s m) ++ [.int .i32 (-1), .int .i64 (s.size : Int)]) →
          ∀ o, (wr.alloc o).grownBy W2 v.ownBlock → W2.cell? ⟨g, 0, none⟩ = some v ∧ W2.frozen? ⟨g, 0, none⟩ = false ∧ Hid (Blk (W2.setCell ⟨g, 0, none⟩ v') g t (cs.setIfInBounds 0 v') ∧
            (W2.setCell ⟨g, 0, none⟩ v').ownsRow (w.heap.size + 1) 102 2 v' (m + 1) (symCells (full (preR s m) s.size)) ∧ w.grownBy (W2.setCell ⟨g, 0, none⟩ v') (some g)) := by
        intro W2 v' h1 o h2
        have hb : ∀ k, v.ownBlock = some k → w.heap.size + 1 ≤ k := fun k hk => (hO1.lt k hk).1
        have h3 : Blk W2 g t (cs.setIfInBounds 0 v) := (HB1.out.alloc o).grown h2 fun e => by have := hb g e; omega
        refine ⟨by rw [h3.cell]; simp [hsz0], h3.frozen 0, Lib.hid ⟨?_, ?_, ?_⟩⟩
        · have := h3.set 0 v'
          rwa [show (cs.setIfInBounds 0 v).setIfInBounds 0 v' = cs.setIfInBounds 0 v' by simp [Array.setIfInBounds_setIfInBounds]] at this
        · rw [show symCells (full (preR s m) s.size) = symCells (preR s m) ++ [.int .i32 (-1), .int .i64 (s.size : Int)] by rw [full, symCells_append]; rfl]
          exact ownsRow_far h1 fun k hk => Below.heap_setCell _ _ _ _ (fun e => own_ne_blk h1 h3 ht (by rw [hk, e]))
        · exact grownBy_setCell' (grownBy_own' (grownBy_alloc' HGr.out o) h2 fun k hk => by have := hb k hk; omega) 0 v'
      have HST := Lib.hid hst
      clear hst
      go_wp2_with (at_builtin; refine wpList_app _ rfl _ _ 47 rfl (w.heap.size + 1) 102 elS v _ _ rfl (hO1.alloc _) 0 (wr.heap.size + 1) _ 1 1 [.int .i32 (-1), .int .i64 (s.size : Int)] rfl (fun h => by cases h) rfl (Rd.new wr _ _ _ (Nat.zero_le _) (by omega)) (by simp [Value.oneCell']) (by unfold maxLen; omega) (by omega) (by simp; omega) ?_; intro v' W2 hO2 hg2 hb2 hn2; obtain ⟨A', c', rfl, _, _⟩ := own_form hO2; obtain ⟨q1, q2, q3⟩ := HST.out _ _ hO2 _ hg2; clear hg2 hb2 hn2 hO2)
      go_end0
      exact ⟨rfl, _, m, HC.out, q3.out⟩
end Go.Proofs.YtbhcgjahlfpjoaaDoor
namespace Go.Proofs.YtbhcgjahlfpjoaaDoor
open Go.RowKit

theorem strOf (s : ByteArray) : strOfNums (s.data.toList.map fun c => (c.toNat : Int)) = s := by
  obtain ⟨⟨l⟩⟩ := s
  simp [strOfNums, Function.comp_def]
theorem conv_bs {w : World} {lo U : Nat} {A : Option Addr} {n : Nat} {s : ByteArray} (c : Nat) (hR : Rd w lo U A (byteVals s.data.toList)) (hn : s.size = n) (hA : A = none → n = 0) :
    (convert 29 9 (.slice A n c)).run Tryd.prog w = .ok (.string s) w := by
  rcases Nat.eq_zero_or_pos n with h0 | h0
  · have hs : s = ByteArray.empty := by
      obtain ⟨⟨l⟩⟩ := s
      have : l = [] := List.eq_nil_of_length_eq_zero (by simpa [ByteArray.size] using hn.trans h0)
      subst this; rfl
    subst h0
    subst hs
    cases A with
    | none => exact run_convert_bytes_nil w _ _ Tryd.underlying29 Tryd.underlying5 0 c _ Tryd.underlying9
    | some ad =>
      have hl : (loadCells ad 0).run Tryd.prog w = .ok (([] : List Int).map (Value.int .u8)).toArray w := rfl
      exact (run_convert_bytes_string w _ _ _ _ 0 c Tryd.underlying29 Tryd.underlying5 Tryd.underlying9).trans (run_bytesToString w ad 0 c [] hl)
  · obtain ⟨b, off, rfl, _, _, hc⟩ := hR (by rw [byteVals_length, blen]; omega)
    have := run_convert_bytes_arg (P := Tryd.prog) w _ _ Tryd.underlying29 Tryd.underlying5 b off n c (s.data.toList.map fun c => (c.toNat : Int)) (by rw [List.length_map, blen]; exact hn) (fun i hi => by
      have hi' : i < s.data.toList.length := by rw [blen]; omega
      refine hc i _ ?_
      simp [byteVals, List.getD, List.getElem?_eq_getElem hi']) _ Tryd.underlying9
    rw [this, strOf]

def InAt (w : World) (lo U g : Nat) (k : Int) (l : List (Int × Nat)) (s : List UInt8) : Prop := SymsAt w lo U g l s ∧ w.cell? ⟨g, 2, none⟩ = some (.int .i64 k)
theorem InAt.same {w w' : World} {lo U g : Nat} {k : Int} {l : List (Int × Nat)} {s : List UInt8} (h : InAt w lo U g k l s) (hs : Same lo U w w') : InAt w' lo U g k l s :=
  ⟨h.1.same hs, (hs.cell (p := ⟨g, 2, none⟩) h.1.1 h.1.2.1).trans h.2⟩
theorem InAt.drewN {w : World} {lo U g : Nat} {k : Int} {l : List (Int × Nat)} {s : List UInt8} (h : InAt w lo U g k l s) (n : Nat) : InAt (w.drewN n) lo U g k l s := h.same ((Same.refl _ _ _).drewN n)

theorem InAt.of_blk {w : World} {lo U g : Nat} {k : Int} {l : List (Int × Nat)} {s : List UInt8} {v tv : Value} {t : TypeId} {base b2 e e2 : Nat} (hB : Blk w g t #[v, tv, .int .i64 k]) (h1 : lo ≤ g) (h2 : w.heap.size ≤ U)
    (hv : w.ownsRow base e 2 v l.length (symCells l)) (hb : lo ≤ base) (ht : w.ownsRow b2 e2 1 tv s.length (byteVals s)) (hb2 : lo ≤ b2) : InAt w lo U g k l s := by
  obtain ⟨A, c, rfl, h3, h4⟩ := own_form hv
  obtain ⟨T, tc, rfl, h5, h6⟩ := own_form ht
  exact ⟨⟨h1, Nat.lt_of_lt_of_le hB.lt h2, A, c, T, tc, by rw [hB.cell]; rfl, by rw [hB.cell]; rfl, Rd.of_own hv hb h2, Rd.of_own ht hb2 h2, h3, h4, h5, h6⟩, by rw [hB.cell]; rfl⟩

theorem new_arg (k : Int) (A : Option Addr) (n c : Nat) (w : World) (h : k < 1 ∨ 3 < k) : Calls Tryd.prog 21 #[.int .i64 k, .slice A n c] w fun e w' => e = .returned (.tuple #[.pointer none, .int .i64 1]) ∧ w = w' := by
  rcases h with h | h
  · go_enter Tryd.func21, Tryd.ntmps21
    go_wp2
    go_ret2
    exact ⟨rfl, rfl⟩
  · have h' : ¬ k < 1 := by omega
    go_enter Tryd.func21, Tryd.ntmps21
    go_wp2
    go_ret2
    exact ⟨rfl, rfl⟩
theorem new_many (k : Int) (A : Option Addr) (n c : Nat) (w : World) (h : 1 ≤ k ∧ k ≤ 3) (hn : 65536 < n) (hb : n ≤ maxLen) : Calls Tryd.prog 21 #[.int .i64 k, .slice A n c] w fun e w' => e = .returned (.tuple #[.pointer none, .int .i64 2]) ∧ w = w' := by
  unfold maxLen at hb
  have h1 : ¬ k < 1 := by omega
  have h2 : ¬ 3 < k := by omega
  go_enter Tryd.func21, Tryd.ntmps21
  go_wp2
  go_ret2
  exact ⟨rfl, rfl⟩

def NewPost (w : World) (k : Int) (s : ByteArray) (e : Ending) (w' : World) : Prop :=
  ∃ g m, Cnt s m ∧ e = .returned (.tuple #[.pointer (some ⟨g, 0, none⟩), .int .i64 0]) ∧ InAt w' w.heap.size w'.heap.size g k (full (preR s m) s.size) s.data.toList ∧ Below w.heap.size w w'

set_option maxHeartbeats 1000000 in
theorem new_text {w : World} {lo U : Nat} {A : Option Addr} {n c : Nat} {s : ByteArray} (k : Int) (hk : 1 ≤ k ∧ k ≤ 2) (hR : Rd w lo U A (byteVals s.data.toList)) (hU : U ≤ w.heap.size) (hn : s.size = n) (hA : A = none → n = 0) (hb : n ≤ 65536) :
    Calls Tryd.prog 21 #[.int .i64 k, .slice A n c] w (NewPost w k s) := by
  have hC := cloneB_any (c := c) hR (by rw [blen]; exact hn) hA (by omega)
  have h1 : ¬ k < 1 := by omega
  have h2 : ¬ 3 < k := by omega
  have h3 : (k == 3) = false := by rw [beq_eq_false_iff_ne]; omega
  have hb' : ¬ (65536 : Int) < n := by omega
  go_enter Tryd.func21, Tryd.ntmps21
  go_wp2_with fail
  refine hC.mono ?_
  rintro e w1 ⟨tv, rfl, htv, hbe⟩
  clear hC
  obtain ⟨T, tc, rfl, _, _⟩ := own_form htv
  have hU1 : U ≤ w1.heap.size := by have := hbe.size; omega
  have hconv : ∀ w', Same lo U w w' → (convert 29 9 (.slice A n c)).run Tryd.prog w' = .ok (.string s) w' := fun w' hs => conv_bs c (hR.same hs) hn hA
  have hs1 : Same lo U w w1 := .of_below hbe hU
  have HCv := Lib.hid hconv
  clear hconv
  go_wp2_with fail
  have hB := Blk.new w1 52 #[.slice none 0 0, .slice T n tc, .int .i64 k]
  have hs2 : Same lo U w (w1.alloc (.cells #[.slice none 0 0, .slice T n tc, .int .i64 k] 52)) := hs1.alloc hU1 _
  have hbe2 := hbe.alloc hbe.size (.cells #[.slice none 0 0, .slice T n tc, .int .i64 k] 52)
  have htv2 := htv.alloc (.cells #[.slice none 0 0, .slice T n tc, .int .i64 k] 52)
  have hgw : w.heap.size ≤ w1.heap.size := hbe.size
  have hsz : w1.heap.size < (w1.alloc (.cells #[.slice none 0 0, .slice T n tc, .int .i64 k] 52)).heap.size := by simp
  generalize w1.alloc (.cells #[.slice none 0 0, .slice T n tc, .int .i64 k] 52) = W1 at hB hs2 hbe2 htv2 hsz ⊢
  generalize w1.heap.size = g at hB hgw hsz hU1 ⊢
  clear hs1 htv hbe
  go_region_held3 (fun w' => (convert 29 9 (.slice A n c)).run Tryd.prog w' = .ok (.string s) w')
    (first
      | exact HCv.out _ (hs2.drew.trans (Same.of_grown hg2 (by have := hbe2.size; simp; omega) (fun k hk => by injection hk with hk; omega)))
      | exact HCv.out _ hs2)
    (first
      | (go_at_call 40; refine (decode_any (hB.drew) rfl (by decide) s (by omega)).mono ?_; rintro e w2 ⟨rfl, v, m, hcnt, hB2, hO2, hg2⟩))
  go_wp2
  go_ret2
  have hts := htv2.drew.kept (w' := w2) hg2 (by
    rcases htv2.2 with h | ⟨g', cap, cur, h5, h6, h7, _⟩
    · left; rw [h.1]; rfl
    · right; intro h8
      have := own_ne_blk htv2.drew hB.drew (by decide)
      exact this h8)
  have hbe3 : Below w.heap.size w w2 := hbe2.drew.grown hg2 (by have := hbe2.size; simp; omega) (fun k hk => by injection hk with hk; omega)
  have hfl : (full (preR s m) s.size).length = m + 1 := by rw [full_length, pre_length]
  refine ⟨g, m, hcnt, rfl, InAt.of_blk (base := W1.heap.size + 1) (b2 := w.heap.size) hB2 hgw (Nat.le_refl _) (by rw [hfl]; exact hO2) (by have := hbe2.size; simp; omega) (by rw [blen, hn]; exact hts) (Nat.le_refl _), hbe3⟩

/-- What holds when the reader has read m runes. -/
structure ReadRel (w wr : World) (g : Nat) (k : Int) (tv : Value) (s : ByteArray) (m : Nat) (v : Value) : Prop where
  lt : ∀ k, k < m → posN s k < s.size
  blk : Blk wr g 52 #[v, tv, .int .i64 k]
  own : wr.ownsRow w.heap.size 102 2 v m (symCells (preR s m))
  txt : wr.ownsRow w.heap.size 5 1 tv s.size (byteVals s.data.toList)
  below : Below w.heap.size w wr
  hg : w.heap.size ≤ g
theorem ownsRow_below {w w' : World} {base : Nat} {e : TypeId} {size n : Nat} {v : Value} {xs : List Value} (h : w.ownsRow base e size v n xs) (hb : Below w.heap.size w w') : w'.ownsRow base e size v n xs :=
  ownsRow_far h fun k hk => hb.block k (h.lt k hk).2
theorem ReadRel.move {w wr w2 : World} {g : Nat} {k : Int} {tv : Value} {s : ByteArray} {m : Nat} {v : Value} (h : ReadRel w wr g k tv s m v) (hb : Below wr.heap.size wr w2) : ReadRel w w2 g k tv s m v :=
  ⟨h.lt, h.blk.below hb h.blk.lt, ownsRow_below h.own hb, ownsRow_below h.txt hb, h.below.trans (hb.mono h.below.size), h.hg⟩
/-- A new row for the runes, stored back. -/
theorem ReadRel.put {w wr W2 : World} {g : Nat} {k : Int} {tv : Value} {s : ByteArray} {m n : Nat} {v v' : Value} {xs : List Value} (h : ReadRel w wr g k tv s m v)
    (hown : W2.ownsRow w.heap.size 102 2 v' n xs) (o : Obj) (hgr : (wr.alloc o).grownBy W2 v.ownBlock) :
    W2.cell? ⟨g, 0, none⟩ = some v ∧ W2.frozen? ⟨g, 0, none⟩ = false ∧ Hid (Blk (W2.setCell ⟨g, 0, none⟩ v') g 52 #[v', tv, .int .i64 k] ∧ (W2.setCell ⟨g, 0, none⟩ v').ownsRow w.heap.size 102 2 v' n xs ∧
      (W2.setCell ⟨g, 0, none⟩ v').ownsRow w.heap.size 5 1 tv s.size (byteVals s.data.toList) ∧ Below w.heap.size w (W2.setCell ⟨g, 0, none⟩ v')) := by
  have hb : ∀ k, v.ownBlock = some k → w.heap.size ≤ k := fun k hk => (h.own.lt k hk).1
  have h3 : Blk W2 g 52 #[v, tv, .int .i64 k] := (h.blk.alloc o).grown hgr (own_ne_blk (h.own.alloc o) (h.blk.alloc o) (by decide))
  have h4 : W2.ownsRow w.heap.size 5 1 tv s.size (byteVals s.data.toList) := (h.txt.alloc o).kept hgr (own_ne_own (h.txt.alloc o) (h.own.alloc o) (by decide))
  refine ⟨by rw [h3.cell]; rfl, h3.frozen 0, Lib.hid ⟨h3.set 0 v', ?_, ?_, ?_⟩⟩
  · exact ownsRow_far hown fun k hk => Below.heap_setCell _ _ _ _ (fun e => own_ne_blk hown h3 (by decide) (by rw [hk, e]))
  · exact ownsRow_far h4 fun k hk => Below.heap_setCell _ _ _ _ (fun e => own_ne_blk h4 h3 (by decide) (by rw [hk, e]))
  · exact ((h.below.alloc h.below.size o).grown hgr (by have := h.below.size; simp; omega) hb).setCell h.hg _

set_option maxHeartbeats 1000000 in
theorem new_reader {w : World} {lo U : Nat} {A : Option Addr} {n c : Nat} {s : ByteArray} (hT : Lib.Utf8Tabs 0 1 w) (hR : Rd w lo U A (byteVals s.data.toList)) (hU : U ≤ w.heap.size) (hn : s.size = n) (hnc : n ≤ c) (hcm : c ≤ maxLen) (hA : A = none → n = 0) (hb : n ≤ 65536) :
    Calls Tryd.prog 21 #[.int .i64 3, .slice A n c] w (NewPost w 3 s) := by
  have hC := cloneB_any (c := c) hR (by rw [blen]; exact hn) hA (by omega)
  have hb' : ¬ (65536 : Int) < n := by omega
  unfold maxLen at hcm
  go_enter Tryd.func21, Tryd.ntmps21
  go_wp2_with fail
  refine hC.mono ?_
  rintro e w1 ⟨tv, rfl, htv, hbe⟩
  clear hC
  obtain ⟨T, tc, rfl, _, _⟩ := own_form htv
  have hstart : ReadRel w (w1.alloc (.cells #[.slice none 0 0, .slice T n tc, .int .i64 3] 52)) w1.heap.size 3 (.slice T n tc) s 0 (.slice none 0 0) :=
    ⟨fun k hk => by omega, Blk.new _ _ _, World.ownsRow_nil _ _ _ _, by rw [hn]; exact htv.alloc _, hbe.alloc hbe.size _, hbe.size⟩
  have HST := Lib.hid hstart
  clear hstart htv
  go_wp2_with fail
  generalize w1.heap.size = g at HST ⊢
  go_loopg [7] (n + 1) (fun q o wr => ∃ m v, q = n + 1 - m ∧ o = .int .i64 (posN s m : Int) ∧ Hid (ReadRel w wr g 3 (.slice T n tc) s m v))
  case atStart => exact ⟨0, _, rfl, rfl, HST⟩
  case round =>
    obtain ⟨m, v, hgk, rfl, HR⟩ := hrel
    have HG := Lib.hid hgk
    clear hgk HST
    have hle := posN_le_size s HR.out.lt
    have hml : m ≤ n := by have := posN_ge s HR.out.lt; omega
    by_cases hp : posN s m < n
    · have hD := dec_any (tabs_below hT HR.out.below) (hR.same (.of_below HR.out.below hU)) hn hnc (posN s m) hp
      rw [if_neg (by omega)] at hD
      have hfit := decode_fits s (posN s m) (by omega)
      have hrune := decode_rune s (posN s m)
      have hnext : posN s m + (Utf8.decode s (posN s m)).2 = posN s (m + 1) := rfl
      have HN := Lib.hid hnext
      have hsym : symCells (preR s (m + 1)) = symCells (preR s m) ++ [.int .i32 ((Utf8.decode s (posN s m)).1 : Nat), .int .i64 (posN s m : Int)] := by rw [pre_succ, symCells_append]; rfl
      have hlt : ∀ k, k < m + 1 → posN s k < s.size := by
        intro k hk
        rcases Nat.lt_succ_iff_lt_or_eq.1 hk with h1 | h1
        · exact HR.out.lt k h1
        · subst h1; omega
      have HL := Lib.hid hlt
      have HS := Lib.hid hsym
      clear hnext hlt hsym hT hR
      have e1 : (symCells (preR s m)).length = m * 2 := by rw [symCells_length, pre_length]
      generalize (Utf8.decode s (posN s m)).1 = r at hD hrune HS
      generalize (Utf8.decode s (posN s m)).2 = d at hD hfit HN
      go_wp2_with fail
      refine hD.mono ?_
      rintro e w2 ⟨rfl, hb2⟩
      have HR2 := Lib.hid (HR.out.move hb2)
      clear hD hb2 HR
      have c1 : w2.cell? ⟨g, 0, none⟩ = some v := by rw [HR2.out.blk.cell]; rfl
      have hO1 := HR2.out.own
      have hlw : w.heap.size ≤ w2.heap.size := HR2.out.below.size
      go_wp2_with (at_builtin; refine wpList_app _ rfl _ _ 47 rfl w.heap.size 102 elS v _ _ rfl (hO1.alloc _) 0 (w2.heap.size + 1) _ 1 1 [.int .i32 (r : Int), .int .i64 (posN s m : Int)] rfl (fun h => by cases h) rfl (Rd.new w2 _ _ _ (Nat.zero_le _) (by omega)) (by simp [Value.oneCell']) (by unfold maxLen; omega) (by omega) (by simp; omega) ?_; intro v' W2 hO2 hg2 hb2 hn2; obtain ⟨A', c', rfl, _, _⟩ := own_form hO2; obtain ⟨q1, q2, q3⟩ := HR2.out.put hO2 _ hg2; clear hg2 hb2 hn2 hO2 hO1)
      go_roundg (n + 1 - (m + 1))
      case measure => have := HG.out; omega
      case rel =>
        refine ⟨m + 1, _, rfl, ?_, Lib.hid ⟨HL.out, q3.out.1, by rw [HS.out]; exact q3.out.2.1, q3.out.2.2.1, q3.out.2.2.2, HR2.out.hg⟩⟩
        rw [← HN.out]; go_num
    · have hend : posN s m = n := by omega
      have hcnt : Cnt s m := ⟨by omega, HR.out.lt⟩
      have HC := Lib.hid hcnt
      have HE := Lib.hid hend
      clear hcnt hend hT hR
      have c1 : wr.cell? ⟨g, 0, none⟩ = some v := by rw [HR.out.blk.cell]; rfl
      have hO1 := HR.out.own
      have e1 : (symCells (preR s m)).length = m * 2 := by rw [symCells_length, pre_length]
      have hlw : w.heap.size ≤ wr.heap.size := HR.out.below.size
      go_wp2_with (at_builtin; refine wpList_app _ rfl _ _ 47 rfl w.heap.size 102 elS v _ _ rfl (hO1.alloc _) 0 (wr.heap.size + 1) _ 1 1 [.int .i32 (-1), .int .i64 (n : Int)] rfl (fun h => by cases h) rfl (Rd.new wr _ _ _ (Nat.zero_le _) (by omega)) (by simp [Value.oneCell']) (by unfold maxLen; omega) (by omega) (by simp; omega) ?_; intro v' W2 hO2 hg2 hb2 hn2; obtain ⟨A', c', rfl, _, _⟩ := own_form hO2; obtain ⟨q1, q2, q3⟩ := HR.out.put hO2 _ hg2; clear hg2 hb2 hn2 hO2 hO1)
      go_ret2
      have hfl : (full (preR s m) s.size).length = m + 1 := by rw [full_length, pre_length]
      have hsc : symCells (full (preR s m) s.size) = symCells (preR s m) ++ [.int .i32 (-1), .int .i64 (n : Int)] := by rw [full, symCells_append, hn]; rfl
      exact ⟨g, m, HC.out, rfl, InAt.of_blk (base := w.heap.size) (b2 := w.heap.size) q3.out.1 HR.out.hg (Nat.le_refl _) (by rw [hfl, hsc]; exact q3.out.2.1) (Nat.le_refl _) (by rw [blen]; exact q3.out.2.2.1) (Nat.le_refl _), q3.out.2.2.2⟩

theorem new_ok {w : World} {lo U : Nat} {A : Option Addr} {n c : Nat} {s : ByteArray} (k : Int) (hk : 1 ≤ k ∧ k ≤ 3) (hT : Lib.Utf8Tabs 0 1 w) (hR : Rd w lo U A (byteVals s.data.toList)) (hU : U ≤ w.heap.size) (hn : s.size = n) (hnc : n ≤ c) (hcm : c ≤ maxLen) (hA : A = none → n = 0) (hb : n ≤ 65536) :
    Calls Tryd.prog 21 #[.int .i64 k, .slice A n c] w (NewPost w k s) := by
  by_cases h3 : k = 3
  · subst h3; exact new_reader hT hR hU hn hnc hcm hA hb
  · exact new_text k (by omega) hR hU hn hA hb
end Go.Proofs.YtbhcgjahlfpjoaaDoor
namespace Go.Proofs.YtbhcgjahlfpjoaaDoor
open Go.RowKit

theorem elR : ElemOK Tryd.prog 116 21 1 4 := .mk' (z := .int .i32 0) Tryd.underlying116 (by kernel_rfl) rfl (by decide)
theorem elI : ElemOK Tryd.prog 35 3 1 8 := .mk' (z := .int .i64 0) Tryd.underlying35 (by kernel_rfl) rfl (by decide)
theorem i32s_one (l : List Int) : ∀ u ∈ i32s l, u.oneCell' = true := by intro u hu; obtain ⟨_, _, rfl⟩ := List.mem_map.1 hu; rfl
theorem i64n_one (l : List Int) : ∀ u ∈ i64n l, u.oneCell' = true := by intro u hu; obtain ⟨_, _, rfl⟩ := List.mem_map.1 hu; rfl

theorem offs_succ (s : ByteArray) (m : Nat) : offsOf (preR s (m + 1)) (posN s (m + 1)) = offsOf (preR s m) (posN s m) ++ [(posN s (m + 1) : Int)] := by
  unfold offsOf full
  rw [pre_succ]
  simp [symN]
theorem runes_succ (s : ByteArray) (m : Nat) : (preR s (m + 1)).map (·.1) = (preR s m).map (·.1) ++ [((Utf8.decode s (posN s m)).1 : Int)] := by
  rw [pre_succ]
  simp [symN]

structure RefRel (w wr : World) (g : Nat) (k : Int) (bv : Value) (s : ByteArray) (rv : Value) (rs : List Int) (ov : Value) (os : List Int) : Prop where
  blk : Blk wr g 118 #[.int .i64 k, bv, rv, ov]
  ownR : wr.ownsRow w.heap.size 21 1 rv rs.length (i32s rs)
  ownO : wr.ownsRow w.heap.size 3 1 ov os.length (i64n os)
  txt : wr.ownsRow w.heap.size 5 1 bv s.size (byteVals s.data.toList)
  below : Below w.heap.size w wr
  hg : w.heap.size ≤ g
section
variable {w wr w2 : World} {g : Nat} {k : Int} {bv : Value} {s : ByteArray} {rv ov : Value} {rs os : List Int}
theorem RefRel.move (h : RefRel w wr g k bv s rv rs ov os) (hb : Below wr.heap.size wr w2) : RefRel w w2 g k bv s rv rs ov os :=
  ⟨h.blk.below hb h.blk.lt, ownsRow_below h.ownR hb, ownsRow_below h.ownO hb, ownsRow_below h.txt hb, h.below.trans (hb.mono h.below.size), h.hg⟩
theorem RefRel.putR {v' : Value} {r : Int} (h : RefRel w wr g k bv s rv rs ov os) (hown : w2.ownsRow w.heap.size 21 1 v' (rs.length + 1) (i32s rs ++ [.int .i32 r])) (o : Obj) (hgr : (wr.alloc o).grownBy w2 rv.ownBlock) :
    w2.cell? ⟨g, 2, none⟩ = some rv ∧ w2.frozen? ⟨g, 2, none⟩ = false ∧ w2.cell? ⟨g, 3, none⟩ = some ov ∧ w.heap.size ≤ w2.heap.size ∧ Hid (RefRel w (w2.setCell ⟨g, 2, none⟩ v') g k bv s v' (rs ++ [r]) ov os) := by
  have hb : ∀ k, rv.ownBlock = some k → w.heap.size ≤ k := fun k hk => (h.ownR.lt k hk).1
  have h3 := (h.blk.alloc o).grown hgr (own_ne_blk (h.ownR.alloc o) (h.blk.alloc o) (by decide))
  have h4 := (h.txt.alloc o).kept hgr (own_ne_own (h.txt.alloc o) (h.ownR.alloc o) (by decide))
  have h5 := (h.ownO.alloc o).kept hgr (own_ne_own (h.ownO.alloc o) (h.ownR.alloc o) (by decide))
  refine ⟨by rw [h3.cell]; rfl, h3.frozen 2, by rw [h3.cell]; rfl, by have := hgr.size; have := h.below.size; simp at *; omega, Lib.hid ⟨h3.set 2 v', ?_, ?_, ?_, ?_, h.hg⟩⟩
  · have := ownsRow_far (w' := w2.setCell ⟨g, 2, none⟩ v') hown fun k hk => Below.heap_setCell _ _ _ _ (fun e => own_ne_blk hown h3 (by decide) (by rw [hk, e]))
    simpa [i32s] using this
  · exact ownsRow_far h5 fun k hk => Below.heap_setCell _ _ _ _ (fun e => own_ne_blk h5 h3 (by decide) (by rw [hk, e]))
  · exact ownsRow_far h4 fun k hk => Below.heap_setCell _ _ _ _ (fun e => own_ne_blk h4 h3 (by decide) (by rw [hk, e]))
  · exact ((h.below.alloc h.below.size o).grown hgr (by have := h.below.size; simp; omega) hb).setCell h.hg _
theorem RefRel.putO {v' : Value} {r : Int} (h : RefRel w wr g k bv s rv rs ov os) (hown : w2.ownsRow w.heap.size 3 1 v' (os.length + 1) (i64n os ++ [.int .i64 r])) (o : Obj) (hgr : (wr.alloc o).grownBy w2 ov.ownBlock) :
    w2.cell? ⟨g, 3, none⟩ = some ov ∧ w2.frozen? ⟨g, 3, none⟩ = false ∧ Hid (RefRel w (w2.setCell ⟨g, 3, none⟩ v') g k bv s rv rs v' (os ++ [r])) := by
  have hb : ∀ k, ov.ownBlock = some k → w.heap.size ≤ k := fun k hk => (h.ownO.lt k hk).1
  have h3 := (h.blk.alloc o).grown hgr (own_ne_blk (h.ownO.alloc o) (h.blk.alloc o) (by decide))
  have h4 := (h.txt.alloc o).kept hgr (own_ne_own (h.txt.alloc o) (h.ownO.alloc o) (by decide))
  have h5 := (h.ownR.alloc o).kept hgr (own_ne_own (h.ownR.alloc o) (h.ownO.alloc o) (by decide))
  refine ⟨by rw [h3.cell]; rfl, h3.frozen 3, Lib.hid ⟨h3.set 3 v', ?_, ?_, ?_, ?_, h.hg⟩⟩
  · exact ownsRow_far h5 fun k hk => Below.heap_setCell _ _ _ _ (fun e => own_ne_blk h5 h3 (by decide) (by rw [hk, e]))
  · have := ownsRow_far (w' := w2.setCell ⟨g, 3, none⟩ v') hown fun k hk => Below.heap_setCell _ _ _ _ (fun e => own_ne_blk hown h3 (by decide) (by rw [hk, e]))
    simpa [i64n] using this
  · exact ownsRow_far h4 fun k hk => Below.heap_setCell _ _ _ _ (fun e => own_ne_blk h4 h3 (by decide) (by rw [hk, e]))
  · exact ((h.below.alloc h.below.size o).grown hgr (by have := h.below.size; simp; omega) hb).setCell h.hg _
theorem RefRel.refAt {U e : Nat} {l : List (Int × Nat)} (h : RefRel w wr g k bv s rv (l.map (·.1)) ov (offsOf l e)) (hU : wr.heap.size ≤ U) : RefAt wr w.heap.size U g l e s.data.toList := by
  obtain ⟨A, c, rfl, h3, h4⟩ := own_form h.txt
  obtain ⟨R, rc, rfl, h5, h6⟩ := own_form h.ownR
  obtain ⟨O, oc, rfl, h7, h8⟩ := own_form h.ownO
  rw [offsOf_length] at h7
  have hr := Rd.of_own (lo := w.heap.size) (U := U) h.ownR (Nat.le_refl _) hU
  have ho := Rd.of_own (lo := w.heap.size) (U := U) h.ownO (Nat.le_refl _) hU
  exact ⟨h.hg, Nat.lt_of_lt_of_le h.blk.lt hU, A, c, R, rc, O, oc, by rw [h.blk.cell, blen]; rfl, by rw [h.blk.cell]; simp, by rw [h.blk.cell]; simp [offsOf_length], Rd.of_own h.txt (Nat.le_refl _) hU, hr, ho, by rw [blen]; exact h3, h4, h7, h8⟩
end

def RefPost (w : World) (s : ByteArray) (e : Ending) (w' : World) : Prop :=
  ∃ g m, Cnt s m ∧ e = .returned (.tuple #[.pointer (some ⟨g, 0, none⟩), .int .i64 0]) ∧ RefAt w' w.heap.size w'.heap.size g (preR s m) s.size s.data.toList ∧ Below w.heap.size w w'

theorem refNew_arg (k : Int) (A : Option Addr) (n c : Nat) (w : World) (h : k < 1 ∨ 3 < k) : Calls Tryd.prog 35 #[.int .i64 k, .slice A n c] w fun e w' => e = .returned (.tuple #[.pointer none, .int .i64 1]) ∧ w = w' := by
  rcases h with h | h
  · go_enter Tryd.func35, Tryd.ntmps35
    go_wp2
    go_ret2
    exact ⟨rfl, rfl⟩
  · have h' : ¬ k < 1 := by omega
    go_enter Tryd.func35, Tryd.ntmps35
    go_wp2
    go_ret2
    exact ⟨rfl, rfl⟩
theorem refNew_many (k : Int) (A : Option Addr) (n c : Nat) (w : World) (h : 1 ≤ k ∧ k ≤ 3) (hn : 65536 < n) (hb : n ≤ maxLen) : Calls Tryd.prog 35 #[.int .i64 k, .slice A n c] w fun e w' => e = .returned (.tuple #[.pointer none, .int .i64 2]) ∧ w = w' := by
  unfold maxLen at hb
  have h1 : ¬ k < 1 := by omega
  have h2 : ¬ 3 < k := by omega
  go_enter Tryd.func35, Tryd.ntmps35
  go_wp2
  go_ret2
  exact ⟨rfl, rfl⟩

set_option maxHeartbeats 1000000 in
theorem refNew_ok {w : World} {lo U : Nat} {A : Option Addr} {n c : Nat} {s : ByteArray} (k : Int) (hk : 1 ≤ k ∧ k ≤ 3) (hT : Lib.Utf8Tabs 0 1 w) (hR : Rd w lo U A (byteVals s.data.toList)) (hU : U ≤ w.heap.size) (hn : s.size = n) (hnc : n ≤ c) (_hcm : c ≤ maxLen) (hA : A = none → n = 0) (hb : n ≤ 65536) :
    Calls Tryd.prog 35 #[.int .i64 k, .slice A n c] w (RefPost w s) := by
  have h1 : ¬ k < 1 := by omega
  have h2 : ¬ 3 < k := by omega
  have hb' : ¬ (65536 : Int) < n := by omega
  unfold maxLen at _hcm
  have hown := World.ownsRow_made (base := w.heap.size) (size := 1) (e := 5) w #[] 0 (Nat.le_refl _) (Nat.zero_le _) rfl
  have hR2 : Rd (w.alloc (.cells #[] 5)) lo U A (byteVals s.data.toList) := hR.same ((Same.refl lo U w).alloc hU _)
  have hbl : (byteVals s.data.toList).length = n * 1 := by rw [byteVals_length, blen]; omega
  go_enter Tryd.func35, Tryd.ntmps35
  go_wp2_with (at_builtin; refine wpList_app _ rfl _ _ 29 rfl w.heap.size 5 elB _ _ _ rfl hown lo U A n c (byteVals s.data.toList) rfl hA hbl hR2 (byteVals_one _) (by unfold maxLen; omega) (by omega) (by simp) ?_; intro bv w1 hbv hg1 hb1 hn1; obtain ⟨T, tc, rfl, _, _⟩ := own_form hbv)
  have hgw : w.heap.size ≤ w1.heap.size := by have := hg1.size; simp at this; omega
  have hbe : Below w.heap.size w w1 := ((Below.refl _ _).alloc (Nat.le_refl _) _).grown hg1 (by simp) (fun k hk => (hown.lt k hk).1)
  have hstart : RefRel w ((w1.alloc (.cells #[.int .i64 0] 3)).alloc (.cells #[.int .i64 k, .slice T n tc, .slice none 0 0, .slice (some ⟨w1.heap.size, 0, none⟩) 1 1] 118)) (w1.heap.size + 1) k (.slice T n tc) s (.slice none 0 0) ((preR s 0).map (·.1)) (.slice (some ⟨w1.heap.size, 0, none⟩) 1 1) (offsOf (preR s 0) (posN s 0)) := by
    refine ⟨?_, World.ownsRow_nil _ _ _ _, ?_, ?_, (hbe.alloc hgw _).alloc (by simp; omega) _, by omega⟩
    · have := Blk.new (w1.alloc (.cells #[.int .i64 0] 3)) 118 #[.int .i64 k, .slice T n tc, .slice none 0 0, .slice (some ⟨w1.heap.size, 0, none⟩) 1 1]
      simpa using this
    · have := (World.ownsRow_lit (base := w.heap.size) (size := 1) (e := 3) w1 #[.int .i64 0] 1 hgw (by unfold maxLen; omega) rfl).alloc (.cells #[.int .i64 k, .slice T n tc, .slice none 0 0, .slice (some ⟨w1.heap.size, 0, none⟩) 1 1] 118)
      exact this
    · rw [hn]
      simp only [Nat.zero_add, List.nil_append] at hbv
      exact (hbv.alloc _).alloc _
  have HST := Lib.hid hstart
  clear hstart hbv hg1 hb1 hn1 hbe hown hR2
  generalize w1.heap.size + 1 = g at HST ⊢
  go_loopg [7] (n + 1) (fun q o wr => ∃ m rv ov, q = n + 1 - m ∧ o = .int .i64 (posN s m : Int) ∧ Hid ((∀ k, k < m → posN s k < s.size) ∧ RefRel w wr g k (.slice T n tc) s rv ((preR s m).map (·.1)) ov (offsOf (preR s m) (posN s m))))
  case atStart => exact ⟨0, _, _, rfl, rfl, Lib.hid ⟨fun k hk => by omega, HST.out⟩⟩
  case round =>
    obtain ⟨m, rv, ov, hgk, rfl, HR⟩ := hrel
    have HG := Lib.hid hgk
    clear hgk HST
    have hle := posN_le_size s HR.out.1
    have hml : m ≤ n := by have := posN_ge s HR.out.1; omega
    by_cases hp : posN s m < n
    · have hD := dec_any (tabs_below hT HR.out.2.below) (hR.same (.of_below HR.out.2.below hU)) hn hnc (posN s m) hp
      rw [if_neg (by omega)] at hD
      have hfit := decode_fits s (posN s m) (by omega)
      have hrune := decode_rune s (posN s m)
      have hnext : posN s m + (Utf8.decode s (posN s m)).2 = posN s (m + 1) := rfl
      have HN := Lib.hid hnext
      have hlt : ∀ k, k < m + 1 → posN s k < s.size := by
        intro k hk
        rcases Nat.lt_succ_iff_lt_or_eq.1 hk with h1 | h1
        · exact HR.out.1 k h1
        · subst h1; omega
      have HL := Lib.hid hlt
      have HRS := Lib.hid (runes_succ s m)
      have HOS := Lib.hid (offs_succ s m)
      have HREL := Lib.hid HR.out.2
      have erl : ((preR s m).map (·.1)).length ≤ 65536 := by rw [List.length_map, pre_length]; omega
      have eol : (offsOf (preR s m) (posN s m)).length ≤ 65537 := by rw [offsOf_length, pre_length]; omega
      have hpn : posN s (m + 1) ≤ n := by have := hfit.2.1; omega
      clear hnext hlt hT hR HR
      generalize (preR s m).map (·.1) = rs at HREL HRS erl
      generalize offsOf (preR s m) (posN s m) = os at HREL HOS eol
      generalize (Utf8.decode s (posN s m)).1 = r at hD hrune HRS
      generalize (Utf8.decode s (posN s m)).2 = d at hD hfit HN
      go_wp2_with fail
      refine hD.mono ?_
      rintro e w2 ⟨rfl, hb2⟩
      have HR2 := Lib.hid (HREL.out.move hb2)
      clear hD hb2 HREL
      have c1 : w2.cell? ⟨g, 2, none⟩ = some rv := by rw [HR2.out.blk.cell]; rfl
      have hO1 := HR2.out.ownR
      have hlw : w.heap.size ≤ w2.heap.size := HR2.out.below.size
      go_wp2_with (first | (at_builtin; refine wpList_app _ rfl _ _ 116 rfl w.heap.size 21 elR rv _ _ rfl (hO1.alloc _) 0 (w2.heap.size + 1) _ 1 1 [.int .i32 (r : Int)] rfl (fun h => by cases h) rfl (Rd.new w2 _ _ _ (Nat.zero_le _) (by omega)) (by simp [Value.oneCell']) (by unfold maxLen; omega) (by omega) (by simp; omega) ?_; intro v' W2 hO2 hg2 hb2 hn2; obtain ⟨A', c', rfl, _, _⟩ := own_form hO2; obtain ⟨q1, q2, q4, q5, q3⟩ := HR2.out.putR hO2 _ hg2; clear hg2 hb2 hn2 hO2 hO1 HR2 c1 hlw) | (at_builtin; refine wpList_app _ rfl _ _ 35 rfl w.heap.size 3 elI ov _ _ rfl (q3.out.ownO.alloc _) 0 _ _ 1 1 [.int .i64 ((posN s m : Int) + (d : Int))] rfl (fun h => by cases h) rfl (Rd.newAt _ _ _ _ _ (by simp) (Nat.zero_le _)) (by simp [Value.oneCell']) (by unfold maxLen; omega) (by omega) (by simp; omega) ?_; intro v3 W3 hO3 hg3 hb3 hn3; obtain ⟨A3, c3, rfl, _, _⟩ := own_form hO3; obtain ⟨q6, q7, q8⟩ := q3.out.putO hO3 _ hg3; clear hg3 hb3 hn3 hO3 q1 q2 q4 q5))
      go_roundg (n + 1 - (m + 1))
      case measure => have := HG.out; omega
      case rel =>
        refine ⟨m + 1, .slice A' (rs.length + 1) c', .slice A3 (os.length + 1) c3, rfl, ?_, Lib.hid ⟨HL.out, ?_⟩⟩
        · rw [← HN.out]; go_num
        · rw [HRS.out, HOS.out, ← HN.out, Int.natCast_add]
          exact q8.out
    · have hend : posN s m = n := by omega
      have hcnt : Cnt s m := ⟨by omega, HR.out.1⟩
      have HC := Lib.hid hcnt
      have hrel := HR.out.2
      rw [hend, ← hn] at hrel
      have HF := Lib.hid (hrel.refAt (Nat.le_refl _))
      have HB := Lib.hid hrel.below
      clear hend hcnt hT hR HR hrel
      go_wp2
      go_ret2
      exact ⟨g, m, HC.out, rfl, HF.out, HB.out⟩
end Go.Proofs.YtbhcgjahlfpjoaaDoor
namespace Go.Proofs.YtbhcgjahlfpjoaaDoor
open Go.RowKit

theorem runeAt_in (m : List (Int × Nat)) (e : Nat) (i : Int) (h0 : 0 ≤ i) (h1 : i < m.length) (hr : ∀ p ∈ m, 0 ≤ p.1) : 0 ≤ runeAt (full m e) i := by
  obtain ⟨k, rfl⟩ := Int.eq_ofNat_of_zero_le h0
  have hk : k < m.length := by omega
  have := runes_at m e k hk
  simp only [List.getElem?_map, List.getElem?_eq_getElem hk, Option.map_some, Option.some.injEq] at this
  have h2 := hr m[k] (List.getElem_mem hk)
  rw [this] at h2
  exact h2

set_option maxHeartbeats 2000000 in
theorem refAt_any {w : World} {lo U g : Nat} {m : List (Int × Nat)} {e : Nat} {s : List UInt8} (h : RefAt w lo U g m e s) (hr : ∀ p ∈ m, 0 ≤ p.1) (i : Int) :
    Calls Tryd.prog 63 #[.pointer (some ⟨g, 0, none⟩), .int .i64 i] w fun e' w' => e' = .returned (.int .i64 (atAt (full m e) i)) ∧ w = w' := by
  have hfl := full_length m e
  obtain ⟨R, rc, hc, hm⟩ : ∃ R rc, w.cell? ⟨g, 2, none⟩ = some (.slice R m.length rc) ∧ (m.length : Int) ≤ 9223372036854775806 := by
    obtain ⟨_, _, B, bc, R, rc, O, oc, _, b, _, _, _, _, _, _, h1, h2⟩ := h
    unfold maxLen at h2
    exact ⟨R, rc, b, by omega⟩
  by_cases hi : i < 0 ∨ (m.length : Int) < i
  · have e1 : atAt (full m e) i = 0 := by unfold atAt; rw [if_pos (by omega)]
    rw [e1]
    have hi2 : i < 0 ∨ (¬ i < 0 ∧ (m.length : Int) < i) := by omega
    clear hi hfl e1
    rcases hi2 with hi | ⟨h0, hi⟩
    all_goals
      go_enter Tryd.func63, Tryd.ntmps63
      go_wp2
      go_ret
      exact ⟨rfl, rfl⟩
  · have e1 : atAt (full m e) i = atOf (runeAt (full m e) (i - 1)) (runeAt (full m e) i) := by unfold atAt; rw [if_neg (by omega)]
    rw [e1]
    have cR := fun j => refRune_any h j
    have hb : (runeAt (full m e) (i - 1) == -1) = decide (i = 0) := by
      by_cases h0 : i = 0
      · rw [runeAt_out m e _ (.inl (by omega))]; simp [h0]
      · have := runeAt_in m e (i - 1) (by omega) (by omega) hr
        rw [decide_eq_false h0, beq_eq_false_iff_ne]; omega
    have hcq : (runeAt (full m e) i == -1) = decide (i = (m.length : Int)) := by
      by_cases h0 : i = (m.length : Int)
      · rw [runeAt_out m e _ (.inr (by omega))]; simp [h0]
      · have := runeAt_in m e i (by omega) (by omega) hr
        rw [decide_eq_false h0, beq_eq_false_iff_ne]; omega
    have h0 : ¬ i < 0 := by omega
    have hle : ¬ (m.length : Int) < i := by omega
    have cB := cR (i - 1)
    have cC := cR i
    clear cR hi e1 hfl h hr
    generalize runeAt (full m e) (i - 1) = b at cB hb ⊢
    generalize runeAt (full m e) i = c at cC hcq ⊢
    have cases4 : ((i == 0) = true ∧ (b == -1) = true ∨ (i == 0) = false ∧ (b == -1) = false) ∧ ((i == (m.length : Int)) = true ∧ (c == -1) = true ∨ (i == (m.length : Int)) = false ∧ (c == -1) = false) := by
      rw [hb, hcq]
      constructor
      · by_cases h : i = 0
        · left; exact ⟨by simp [h], decide_eq_true h⟩
        · right; exact ⟨beq_eq_false_iff_ne.2 h, decide_eq_false h⟩
      · by_cases h : i = (m.length : Int)
        · left; exact ⟨by simp [h], decide_eq_true h⟩
        · right; exact ⟨beq_eq_false_iff_ne.2 h, decide_eq_false h⟩
    clear hb hcq
    rcases cases4 with ⟨⟨g1, g2⟩ | ⟨g1, g2⟩, ⟨g3, g4⟩ | ⟨g3, g4⟩⟩
    all_goals
      have G2 := Lib.hid g2
      have G4 := Lib.hid g4
      clear g2 g4
      go_enter Tryd.func63, Tryd.ntmps63
      go_wp2_with fail
      refine cB.mono ?_
      rintro e w' ⟨rfl, rfl⟩
      go_wp2_with fail
      refine cC.mono ?_
      rintro e w' ⟨rfl, rfl⟩
      go_wp2_with (go_at_call 67; refine (refWord_any _ _).mono ?_; rintro e w' ⟨rfl, rfl⟩)
      all_goals (go_ret; have g2 := G2.out; have g4 := G4.out; refine ⟨retIn ?_, rfl⟩; simp only [atOf, *]; rfl)
end Go.Proofs.YtbhcgjahlfpjoaaDoor
namespace Go.Proofs.YtbhcgjahlfpjoaaDoor
open Go.RowKit

/-- The two runes of head's text. -/
def abS : ByteArray := ⟨#[97, 98]⟩
theorem abCnt : Cnt abS 2 := ⟨by decide, fun k hk => by
  match k, hk with
  | 0, _ => decide
  | 1, _ => decide⟩

/-- A byte of an owned row is written over. -/
theorem ownB_set {w : World} {base : Nat} {n cap g : Nat} {zs : List Int} (h : w.ownsRow base 5 1 (.slice (some ⟨g, 0, none⟩) n cap) n (zs.map (Value.int .u8))) (k : Nat) (x : Int) :
    (w.setCell ⟨g, k, none⟩ (.int .u8 x)).ownsRow base 5 1 (.slice (some ⟨g, 0, none⟩) n cap) n ((zs.set k x).map (Value.int .u8)) ∧ w.grownBy (w.setCell ⟨g, k, none⟩ (.int .u8 x)) (some g) := by
  have := h.stored k (.int .u8 x)
  rwa [← List.map_set] at this
theorem grownBy_trans' {w w' w'' : World} {row : Option Nat} (h : w.grownBy w' row) (h2 : w'.grownBy w'' row) : w.grownBy w'' row :=
  ⟨h2.os.trans h.os, h2.tape.trans h.tape, h2.output.trans h.output, Nat.le_trans h.size h2.size, fun k hk hne => (h2.block k (by have := h.size; omega) hne).trans (h.block k hk hne)⟩
theorem byteVals_ints (s : List UInt8) : byteVals s = (s.map fun c => (c.toNat : Int)).map (Value.int .u8) := by simp [byteVals]

def BothCore (w : World) (N : World → World → Option Addr → Prop) (M : World → World → Option Addr → Prop) (e : Ending) (w' : World) : Prop :=
  ∃ w1 w2 w3 p q row, N w1 w2 p ∧ M w2 w3 q ∧ e = .returned (.tuple #[.pointer p, .pointer q, .bool true]) ∧ w3.grownBy w' row ∧ (∀ k, row = some k → w.heap.size ≤ k ∧ k < w1.heap.size) ∧ w.heap.size ≤ w1.heap.size ∧ Below w1.heap.size w1 w2 ∧ Below w2.heap.size w2 w3 ∧ Below w.heap.size w w3

/-- Both inputs, made of the same bytes. -/
def BothOk (w : World) (k : Int) (s : ByteArray) (e : Ending) (w' : World) : Prop :=
  ∃ g g' m lo U lo' U', Cnt s m ∧ e = .returned (.tuple #[.pointer (some ⟨g, 0, none⟩), .pointer (some ⟨g', 0, none⟩), .bool true]) ∧ w.heap.size ≤ lo ∧ lo ≤ lo' ∧ U ≤ w'.heap.size ∧ U' ≤ w'.heap.size ∧
    InAt w' lo U g k (full (preR s m) s.size) s.data.toList ∧ RefAt w' lo' U' g' (preR s m) s.size s.data.toList ∧ Below w.heap.size w w'

end Go.Proofs.YtbhcgjahlfpjoaaDoor
