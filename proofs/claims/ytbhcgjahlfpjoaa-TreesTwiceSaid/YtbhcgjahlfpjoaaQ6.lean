/- What is a name: the walks. -/
import Derived.Test.YtbhcgjahlfpjoaaQ2
import Derived.Lib.ConvBytes
import Derived.Laws.Strings
namespace Go.Proofs.Ytbhcgjahlfpjoaa
open Go.RowKit

/-- A byte of a text. -/
def bAt (s : ByteArray) (i : Nat) : Int := ((s.data.toList.getD i 0).toNat : Int)
theorem bAt_range (s : ByteArray) (i : Nat) : 0 ≤ bAt s i ∧ bAt s i ≤ 255 := by
  unfold bAt
  have := (s.data.toList.getD i 0).toNat_lt
  omega
theorem bAt_get (s : ByteArray) (i : Nat) (h : i < s.size) : ((s[i]'h).toNat : Int) = bAt s i := by
  have h' : i < s.data.toList.length := by rw [Array.length_toList]; exact h
  unfold bAt
  rw [List.getD_eq_getElem?_getD, List.getElem?_eq_getElem h']
  rfl
def LetB (c : Int) : Prop := (97 ≤ c ∧ c ≤ 122) ∨ (65 ≤ c ∧ c ≤ 90) ∨ c = 95
def DigB (c : Int) : Prop := 48 ≤ c ∧ c ≤ 57
/-- Is a text a name? -/
def NameOk (s : ByteArray) : Prop := 1 ≤ s.size ∧ s.size ≤ 32 ∧ ∀ i, i < s.size → LetB (bAt s i) ∨ (0 < i ∧ DigB (bAt s i))
/-- Told: does it hold? -/
def YesB (P : Prop) (w : World) (e : Ending) (w' : World) : Prop := ∃ b, e = .returned (.bool b) ∧ (b = true ↔ P) ∧ Below w.heap.size w w'
theorem YesB.yes {P : Prop} {w w' : World} (h : P) (hb : Below w.heap.size w w') : YesB P w (.returned (.bool true)) w' := ⟨true, rfl, ⟨fun _ => h, fun _ => rfl⟩, hb⟩
theorem YesB.no {P : Prop} {w w' : World} (h : ¬ P) (hb : Below w.heap.size w w') : YesB P w (.returned (.bool false)) w' := ⟨false, rfl, ⟨fun h => (by cases h), fun h' => absurd h' h⟩, hb⟩
/-- In which of nine stretches a byte lies. -/
theorem stretch (c : Int) : c < 48 ∨ (48 ≤ c ∧ c ≤ 57) ∨ (58 ≤ c ∧ c ≤ 64) ∨ (65 ≤ c ∧ c ≤ 90) ∨ (91 ≤ c ∧ c ≤ 94) ∨ c = 95 ∨ c = 96 ∨ (97 ≤ c ∧ c ≤ 122) ∨ 123 ≤ c := by omega

set_option maxRecDepth 20000 in
set_option maxHeartbeats 4000000 in
theorem pname_any (s : ByteArray) (hs : s.size ≤ maxLen) (w : World) : Calls Try.prog 85 #[.string s] w (YesB (NameOk s) w) := by
  unfold maxLen at hs
  by_cases h0 : s.size = 0
  · have d0 : s.toList.isEmpty = true := by rw [ByteArray.toList_eq]; cases hl : s.data.toList with
      | nil => rfl
      | cons _ _ => have := congrArg List.length hl; rw [Array.length_toList] at this; exact absurd h0 (by show s.data.size ≠ 0; rw [this]; simp)
    have hno : ¬ NameOk s := fun h => by have := h.1; omega
    have HNO := Lib.hid hno
    clear hno h0
    go_enter Try.func85, Try.ntmps85
    go_wp2_with fail
    go_ret
    exact .no HNO.out (Below.refl _ _)
  have d0 : s.toList.isEmpty = false := by rw [ByteArray.toList_eq]; cases hl : s.data.toList with
    | nil => have := congrArg List.length hl; rw [Array.length_toList] at this; exact absurd this h0
    | cons _ _ => rfl
  by_cases h32 : s.size ≤ 32
  case neg =>
    have d1 : decide ((32 : Int) < (s.size : Int)) = true := decide_eq_true (by omega)
    have d1b : decide (32 < s.size) = true := decide_eq_true (by omega)
    have hno : ¬ NameOk s := fun h => h32 h.2.1
    have HNO := Lib.hid hno
    clear hno h32 h0
    go_enter Try.func85, Try.ntmps85
    go_wp2_with fail
    go_ret
    exact .no HNO.out (Below.refl _ _)
  have d1 : decide ((32 : Int) < (s.size : Int)) = false := decide_eq_false (by omega)
  have d1b : decide (32 < s.size) = false := decide_eq_false (by omega)
  have hp : 0 < s.size := by omega
  have hg := bAt_get s 0 hp
  obtain ⟨c0, hc0⟩ : ∃ c0, c0 = bAt s 0 := ⟨_, rfl⟩
  rw [← hc0] at hg
  have HC0 := Lib.hid hc0
  have hr0 := bAt_range s 0
  rw [← hc0] at hr0
  obtain ⟨hr1, hr2⟩ := hr0
  clear hc0
  by_cases hd : 48 ≤ c0 ∧ c0 ≤ 57
  · obtain ⟨e1, e2⟩ := hd
    have t1 : decide (48 ≤ c0) = true := decide_eq_true e1
    have t2 : decide (c0 ≤ 57) = true := decide_eq_true e2
    have hno : ¬ NameOk s := fun h => by
      rcases h.2.2 0 hp with h | h
      · rw [← HC0.out] at h; unfold LetB at h; omega
      · omega
    have HNO := Lib.hid hno
    clear hno
    go_enter Try.func85, Try.ntmps85
    go_wp2_with fail
    go_ret
    exact .no HNO.out (Below.refl _ _)
  have hkb := fun W => Lib.run_convert_string_bytes (P := Try.prog) W 9 102 5 s Try.underlying9 Try.underlying102 Try.underlying5
  have hwb : Below w.heap.size w (Lib.bytesWorld w 5 s) := ⟨rfl, rfl, rfl, by rw [Lib.bytesWorld_size]; omega, fun k hk => Lib.bytesWorld_at_old w 5 s k hk⟩
  have hcell : ∀ j, j < s.size → (Lib.bytesWorld w 5 s).cell? ⟨w.heap.size, j, none⟩ = some (.int .u8 (bAt s j)) := fun j hj => Lib.bytesWorld_cell w 5 s j hj
  have hsz : w.heap.size < (Lib.bytesWorld w 5 s).heap.size := by rw [Lib.bytesWorld_size]; omega
  have HWB := Lib.hid hwb
  have HCE := Lib.hid hcell
  have HSZ := Lib.hid hsz
  have HD := Lib.hid hd
  clear hwb hcell hsz hd
  by_cases e1 : 48 ≤ c0
  · have e2 : ¬ c0 ≤ 57 := fun h => HD.out ⟨e1, h⟩
    have t1 : decide (48 ≤ c0) = true := decide_eq_true e1
    have t2 : decide (c0 ≤ 57) = false := decide_eq_false e2
    clear e1 e2
    go_enter Try.func85, Try.ntmps85
    go_wp2_with fail
    generalize Lib.bytesWorld w 5 s = w1 at HWB HCE HSZ ⊢
    clear hkb t1 t2
    go_loopg [25] (s.size + 1) (fun q i W => ∃ j : Nat, q = s.size + 1 - j ∧ j ≤ s.size ∧ i = .int .i64 (j : Int) ∧ w1 = W ∧ Hid (∀ k, k < j → LetB (bAt s k) ∨ DigB (bAt s k)))
    case atStart => exact ⟨0, rfl, Nat.zero_le _, rfl, rfl, Lib.hid fun k hk => by omega⟩
    case round =>
      obtain ⟨j, hgk, hj, rfl, rfl, HS⟩ := hrel
      have HG := Lib.hid hgk
      have HJ := Lib.hid hj
      clear hgk hj
      by_cases hlt : j < s.size
      · have c1 := HCE.out j hlt
        have hr := bAt_range s j
        obtain ⟨c, hc⟩ : ∃ c, c = bAt s j := ⟨_, rfl⟩
        rw [← hc] at c1 hr
        obtain ⟨r0, r1⟩ := hr
        have HC := Lib.hid hc
        have HLT := Lib.hid hlt
        have hi : (j : Int) < (s.size : Int) := by omega
        clear hlt hc
        rcases stretch c with h | ⟨h, h'⟩ | ⟨h, h'⟩ | ⟨h, h'⟩ | ⟨h, h'⟩ | h | h | ⟨h, h'⟩ | h
        · have t0 : decide (97 ≤ c) = false := decide_eq_false (by omega)
          have t1 : decide (c ≤ 122) = true := decide_eq_true (by omega)
          have t2 : decide (65 ≤ c) = false := decide_eq_false (by omega)
          have t3 : decide (c ≤ 90) = true := decide_eq_true (by omega)
          have t4 : decide (48 ≤ c) = false := decide_eq_false (by omega)
          have t5 : decide (c ≤ 57) = true := decide_eq_true (by omega)
          have t6 : (c == 95) = false := beq_eq_false_iff_ne.2 (by omega)
          have hno : ¬ NameOk s := fun hx => by
            have := hx.2.2 j HLT.out
            rw [← HC.out] at this
            unfold LetB DigB at this
            omega
          have HNO := Lib.hid hno
          clear hno h
          go_wp2_with fail
          go_ret
          exact .no HNO.out HWB.out
        · have t0 : decide (97 ≤ c) = false := decide_eq_false (by omega)
          have t1 : decide (c ≤ 122) = true := decide_eq_true (by omega)
          have t2 : decide (65 ≤ c) = false := decide_eq_false (by omega)
          have t3 : decide (c ≤ 90) = true := decide_eq_true (by omega)
          have t4 : decide (48 ≤ c) = true := decide_eq_true (by omega)
          have t5 : decide (c ≤ 57) = true := decide_eq_true (by omega)
          have t6 : (c == 95) = false := beq_eq_false_iff_ne.2 (by omega)
          have hn : ∀ k, k < j + 1 → LetB (bAt s k) ∨ DigB (bAt s k) := fun k hk => by
            rcases Nat.lt_succ_iff_lt_or_eq.1 hk with h | h
            · exact HS.out k h
            · subst h; rw [← HC.out]; unfold LetB DigB; omega
          have HN := Lib.hid hn
          clear hn h h'
          go_wp2_with fail
          go_roundg (s.size + 1 - (j + 1))
          case measure => have := HG.out; have := HLT.out; omega
          case rel => exact ⟨j + 1, rfl, by have := HLT.out; omega, by go_num, rfl, HN⟩
        · have t0 : decide (97 ≤ c) = false := decide_eq_false (by omega)
          have t1 : decide (c ≤ 122) = true := decide_eq_true (by omega)
          have t2 : decide (65 ≤ c) = false := decide_eq_false (by omega)
          have t3 : decide (c ≤ 90) = true := decide_eq_true (by omega)
          have t4 : decide (48 ≤ c) = true := decide_eq_true (by omega)
          have t5 : decide (c ≤ 57) = false := decide_eq_false (by omega)
          have t6 : (c == 95) = false := beq_eq_false_iff_ne.2 (by omega)
          have hno : ¬ NameOk s := fun hx => by
            have := hx.2.2 j HLT.out
            rw [← HC.out] at this
            unfold LetB DigB at this
            omega
          have HNO := Lib.hid hno
          clear hno h h'
          go_wp2_with fail
          go_ret
          exact .no HNO.out HWB.out
        · have t0 : decide (97 ≤ c) = false := decide_eq_false (by omega)
          have t1 : decide (c ≤ 122) = true := decide_eq_true (by omega)
          have t2 : decide (65 ≤ c) = true := decide_eq_true (by omega)
          have t3 : decide (c ≤ 90) = true := decide_eq_true (by omega)
          have t4 : decide (48 ≤ c) = true := decide_eq_true (by omega)
          have t5 : decide (c ≤ 57) = false := decide_eq_false (by omega)
          have t6 : (c == 95) = false := beq_eq_false_iff_ne.2 (by omega)
          have hn : ∀ k, k < j + 1 → LetB (bAt s k) ∨ DigB (bAt s k) := fun k hk => by
            rcases Nat.lt_succ_iff_lt_or_eq.1 hk with h | h
            · exact HS.out k h
            · subst h; rw [← HC.out]; unfold LetB DigB; omega
          have HN := Lib.hid hn
          clear hn h h'
          go_wp2_with fail
          go_roundg (s.size + 1 - (j + 1))
          case measure => have := HG.out; have := HLT.out; omega
          case rel => exact ⟨j + 1, rfl, by have := HLT.out; omega, by go_num, rfl, HN⟩
        · have t0 : decide (97 ≤ c) = false := decide_eq_false (by omega)
          have t1 : decide (c ≤ 122) = true := decide_eq_true (by omega)
          have t2 : decide (65 ≤ c) = true := decide_eq_true (by omega)
          have t3 : decide (c ≤ 90) = false := decide_eq_false (by omega)
          have t4 : decide (48 ≤ c) = true := decide_eq_true (by omega)
          have t5 : decide (c ≤ 57) = false := decide_eq_false (by omega)
          have t6 : (c == 95) = false := beq_eq_false_iff_ne.2 (by omega)
          have hno : ¬ NameOk s := fun hx => by
            have := hx.2.2 j HLT.out
            rw [← HC.out] at this
            unfold LetB DigB at this
            omega
          have HNO := Lib.hid hno
          clear hno h h'
          go_wp2_with fail
          go_ret
          exact .no HNO.out HWB.out
        · have t0 : decide (97 ≤ c) = false := decide_eq_false (by omega)
          have t1 : decide (c ≤ 122) = true := decide_eq_true (by omega)
          have t2 : decide (65 ≤ c) = true := decide_eq_true (by omega)
          have t3 : decide (c ≤ 90) = false := decide_eq_false (by omega)
          have t4 : decide (48 ≤ c) = true := decide_eq_true (by omega)
          have t5 : decide (c ≤ 57) = false := decide_eq_false (by omega)
          have t6 : (c == 95) = true := beq_iff_eq.2 (by omega)
          have hn : ∀ k, k < j + 1 → LetB (bAt s k) ∨ DigB (bAt s k) := fun k hk => by
            rcases Nat.lt_succ_iff_lt_or_eq.1 hk with h | h
            · exact HS.out k h
            · subst h; rw [← HC.out]; unfold LetB DigB; omega
          have HN := Lib.hid hn
          clear hn h
          go_wp2_with fail
          go_roundg (s.size + 1 - (j + 1))
          case measure => have := HG.out; have := HLT.out; omega
          case rel => exact ⟨j + 1, rfl, by have := HLT.out; omega, by go_num, rfl, HN⟩
        · have t0 : decide (97 ≤ c) = false := decide_eq_false (by omega)
          have t1 : decide (c ≤ 122) = true := decide_eq_true (by omega)
          have t2 : decide (65 ≤ c) = true := decide_eq_true (by omega)
          have t3 : decide (c ≤ 90) = false := decide_eq_false (by omega)
          have t4 : decide (48 ≤ c) = true := decide_eq_true (by omega)
          have t5 : decide (c ≤ 57) = false := decide_eq_false (by omega)
          have t6 : (c == 95) = false := beq_eq_false_iff_ne.2 (by omega)
          have hno : ¬ NameOk s := fun hx => by
            have := hx.2.2 j HLT.out
            rw [← HC.out] at this
            unfold LetB DigB at this
            omega
          have HNO := Lib.hid hno
          clear hno h
          go_wp2_with fail
          go_ret
          exact .no HNO.out HWB.out
        · have t0 : decide (97 ≤ c) = true := decide_eq_true (by omega)
          have t1 : decide (c ≤ 122) = true := decide_eq_true (by omega)
          have t2 : decide (65 ≤ c) = true := decide_eq_true (by omega)
          have t3 : decide (c ≤ 90) = false := decide_eq_false (by omega)
          have t4 : decide (48 ≤ c) = true := decide_eq_true (by omega)
          have t5 : decide (c ≤ 57) = false := decide_eq_false (by omega)
          have t6 : (c == 95) = false := beq_eq_false_iff_ne.2 (by omega)
          have hn : ∀ k, k < j + 1 → LetB (bAt s k) ∨ DigB (bAt s k) := fun k hk => by
            rcases Nat.lt_succ_iff_lt_or_eq.1 hk with h | h
            · exact HS.out k h
            · subst h; rw [← HC.out]; unfold LetB DigB; omega
          have HN := Lib.hid hn
          clear hn h h'
          go_wp2_with fail
          go_roundg (s.size + 1 - (j + 1))
          case measure => have := HG.out; have := HLT.out; omega
          case rel => exact ⟨j + 1, rfl, by have := HLT.out; omega, by go_num, rfl, HN⟩
        · have t0 : decide (97 ≤ c) = true := decide_eq_true (by omega)
          have t1 : decide (c ≤ 122) = false := decide_eq_false (by omega)
          have t2 : decide (65 ≤ c) = true := decide_eq_true (by omega)
          have t3 : decide (c ≤ 90) = false := decide_eq_false (by omega)
          have t4 : decide (48 ≤ c) = true := decide_eq_true (by omega)
          have t5 : decide (c ≤ 57) = false := decide_eq_false (by omega)
          have t6 : (c == 95) = false := beq_eq_false_iff_ne.2 (by omega)
          have hno : ¬ NameOk s := fun hx => by
            have := hx.2.2 j HLT.out
            rw [← HC.out] at this
            unfold LetB DigB at this
            omega
          have HNO := Lib.hid hno
          clear hno h
          go_wp2_with fail
          go_ret
          exact .no HNO.out HWB.out
      · have hi : ¬ (j : Int) < (s.size : Int) := by omega
        have hok : NameOk s := ⟨by omega, h32, fun i hi => by
          rcases HS.out i (by omega) with h | h
          · exact .inl h
          · refine .inr ⟨?_, h⟩
            rcases Nat.eq_zero_or_pos i with h0 | h0
            · subst h0; rw [← HC0.out] at h; exact absurd h HD.out
            · exact h0⟩
        have HOK := Lib.hid hok
        clear hlt hok
        go_wp2_with fail
        go_ret
        exact .yes HOK.out HWB.out
  · have t1 : decide (48 ≤ c0) = false := decide_eq_false e1
    clear e1
    go_enter Try.func85, Try.ntmps85
    go_wp2_with fail
    generalize Lib.bytesWorld w 5 s = w1 at HWB HCE HSZ ⊢
    clear hkb t1 
    go_loopg [25] (s.size + 1) (fun q i W => ∃ j : Nat, q = s.size + 1 - j ∧ j ≤ s.size ∧ i = .int .i64 (j : Int) ∧ w1 = W ∧ Hid (∀ k, k < j → LetB (bAt s k) ∨ DigB (bAt s k)))
    case atStart => exact ⟨0, rfl, Nat.zero_le _, rfl, rfl, Lib.hid fun k hk => by omega⟩
    case round =>
      obtain ⟨j, hgk, hj, rfl, rfl, HS⟩ := hrel
      have HG := Lib.hid hgk
      have HJ := Lib.hid hj
      clear hgk hj
      by_cases hlt : j < s.size
      · have c1 := HCE.out j hlt
        have hr := bAt_range s j
        obtain ⟨c, hc⟩ : ∃ c, c = bAt s j := ⟨_, rfl⟩
        rw [← hc] at c1 hr
        obtain ⟨r0, r1⟩ := hr
        have HC := Lib.hid hc
        have HLT := Lib.hid hlt
        have hi : (j : Int) < (s.size : Int) := by omega
        clear hlt hc
        rcases stretch c with h | ⟨h, h'⟩ | ⟨h, h'⟩ | ⟨h, h'⟩ | ⟨h, h'⟩ | h | h | ⟨h, h'⟩ | h
        · have t0 : decide (97 ≤ c) = false := decide_eq_false (by omega)
          have t1 : decide (c ≤ 122) = true := decide_eq_true (by omega)
          have t2 : decide (65 ≤ c) = false := decide_eq_false (by omega)
          have t3 : decide (c ≤ 90) = true := decide_eq_true (by omega)
          have t4 : decide (48 ≤ c) = false := decide_eq_false (by omega)
          have t5 : decide (c ≤ 57) = true := decide_eq_true (by omega)
          have t6 : (c == 95) = false := beq_eq_false_iff_ne.2 (by omega)
          have hno : ¬ NameOk s := fun hx => by
            have := hx.2.2 j HLT.out
            rw [← HC.out] at this
            unfold LetB DigB at this
            omega
          have HNO := Lib.hid hno
          clear hno h
          go_wp2_with fail
          go_ret
          exact .no HNO.out HWB.out
        · have t0 : decide (97 ≤ c) = false := decide_eq_false (by omega)
          have t1 : decide (c ≤ 122) = true := decide_eq_true (by omega)
          have t2 : decide (65 ≤ c) = false := decide_eq_false (by omega)
          have t3 : decide (c ≤ 90) = true := decide_eq_true (by omega)
          have t4 : decide (48 ≤ c) = true := decide_eq_true (by omega)
          have t5 : decide (c ≤ 57) = true := decide_eq_true (by omega)
          have t6 : (c == 95) = false := beq_eq_false_iff_ne.2 (by omega)
          have hn : ∀ k, k < j + 1 → LetB (bAt s k) ∨ DigB (bAt s k) := fun k hk => by
            rcases Nat.lt_succ_iff_lt_or_eq.1 hk with h | h
            · exact HS.out k h
            · subst h; rw [← HC.out]; unfold LetB DigB; omega
          have HN := Lib.hid hn
          clear hn h h'
          go_wp2_with fail
          go_roundg (s.size + 1 - (j + 1))
          case measure => have := HG.out; have := HLT.out; omega
          case rel => exact ⟨j + 1, rfl, by have := HLT.out; omega, by go_num, rfl, HN⟩
        · have t0 : decide (97 ≤ c) = false := decide_eq_false (by omega)
          have t1 : decide (c ≤ 122) = true := decide_eq_true (by omega)
          have t2 : decide (65 ≤ c) = false := decide_eq_false (by omega)
          have t3 : decide (c ≤ 90) = true := decide_eq_true (by omega)
          have t4 : decide (48 ≤ c) = true := decide_eq_true (by omega)
          have t5 : decide (c ≤ 57) = false := decide_eq_false (by omega)
          have t6 : (c == 95) = false := beq_eq_false_iff_ne.2 (by omega)
          have hno : ¬ NameOk s := fun hx => by
            have := hx.2.2 j HLT.out
            rw [← HC.out] at this
            unfold LetB DigB at this
            omega
          have HNO := Lib.hid hno
          clear hno h h'
          go_wp2_with fail
          go_ret
          exact .no HNO.out HWB.out
        · have t0 : decide (97 ≤ c) = false := decide_eq_false (by omega)
          have t1 : decide (c ≤ 122) = true := decide_eq_true (by omega)
          have t2 : decide (65 ≤ c) = true := decide_eq_true (by omega)
          have t3 : decide (c ≤ 90) = true := decide_eq_true (by omega)
          have t4 : decide (48 ≤ c) = true := decide_eq_true (by omega)
          have t5 : decide (c ≤ 57) = false := decide_eq_false (by omega)
          have t6 : (c == 95) = false := beq_eq_false_iff_ne.2 (by omega)
          have hn : ∀ k, k < j + 1 → LetB (bAt s k) ∨ DigB (bAt s k) := fun k hk => by
            rcases Nat.lt_succ_iff_lt_or_eq.1 hk with h | h
            · exact HS.out k h
            · subst h; rw [← HC.out]; unfold LetB DigB; omega
          have HN := Lib.hid hn
          clear hn h h'
          go_wp2_with fail
          go_roundg (s.size + 1 - (j + 1))
          case measure => have := HG.out; have := HLT.out; omega
          case rel => exact ⟨j + 1, rfl, by have := HLT.out; omega, by go_num, rfl, HN⟩
        · have t0 : decide (97 ≤ c) = false := decide_eq_false (by omega)
          have t1 : decide (c ≤ 122) = true := decide_eq_true (by omega)
          have t2 : decide (65 ≤ c) = true := decide_eq_true (by omega)
          have t3 : decide (c ≤ 90) = false := decide_eq_false (by omega)
          have t4 : decide (48 ≤ c) = true := decide_eq_true (by omega)
          have t5 : decide (c ≤ 57) = false := decide_eq_false (by omega)
          have t6 : (c == 95) = false := beq_eq_false_iff_ne.2 (by omega)
          have hno : ¬ NameOk s := fun hx => by
            have := hx.2.2 j HLT.out
            rw [← HC.out] at this
            unfold LetB DigB at this
            omega
          have HNO := Lib.hid hno
          clear hno h h'
          go_wp2_with fail
          go_ret
          exact .no HNO.out HWB.out
        · have t0 : decide (97 ≤ c) = false := decide_eq_false (by omega)
          have t1 : decide (c ≤ 122) = true := decide_eq_true (by omega)
          have t2 : decide (65 ≤ c) = true := decide_eq_true (by omega)
          have t3 : decide (c ≤ 90) = false := decide_eq_false (by omega)
          have t4 : decide (48 ≤ c) = true := decide_eq_true (by omega)
          have t5 : decide (c ≤ 57) = false := decide_eq_false (by omega)
          have t6 : (c == 95) = true := beq_iff_eq.2 (by omega)
          have hn : ∀ k, k < j + 1 → LetB (bAt s k) ∨ DigB (bAt s k) := fun k hk => by
            rcases Nat.lt_succ_iff_lt_or_eq.1 hk with h | h
            · exact HS.out k h
            · subst h; rw [← HC.out]; unfold LetB DigB; omega
          have HN := Lib.hid hn
          clear hn h
          go_wp2_with fail
          go_roundg (s.size + 1 - (j + 1))
          case measure => have := HG.out; have := HLT.out; omega
          case rel => exact ⟨j + 1, rfl, by have := HLT.out; omega, by go_num, rfl, HN⟩
        · have t0 : decide (97 ≤ c) = false := decide_eq_false (by omega)
          have t1 : decide (c ≤ 122) = true := decide_eq_true (by omega)
          have t2 : decide (65 ≤ c) = true := decide_eq_true (by omega)
          have t3 : decide (c ≤ 90) = false := decide_eq_false (by omega)
          have t4 : decide (48 ≤ c) = true := decide_eq_true (by omega)
          have t5 : decide (c ≤ 57) = false := decide_eq_false (by omega)
          have t6 : (c == 95) = false := beq_eq_false_iff_ne.2 (by omega)
          have hno : ¬ NameOk s := fun hx => by
            have := hx.2.2 j HLT.out
            rw [← HC.out] at this
            unfold LetB DigB at this
            omega
          have HNO := Lib.hid hno
          clear hno h
          go_wp2_with fail
          go_ret
          exact .no HNO.out HWB.out
        · have t0 : decide (97 ≤ c) = true := decide_eq_true (by omega)
          have t1 : decide (c ≤ 122) = true := decide_eq_true (by omega)
          have t2 : decide (65 ≤ c) = true := decide_eq_true (by omega)
          have t3 : decide (c ≤ 90) = false := decide_eq_false (by omega)
          have t4 : decide (48 ≤ c) = true := decide_eq_true (by omega)
          have t5 : decide (c ≤ 57) = false := decide_eq_false (by omega)
          have t6 : (c == 95) = false := beq_eq_false_iff_ne.2 (by omega)
          have hn : ∀ k, k < j + 1 → LetB (bAt s k) ∨ DigB (bAt s k) := fun k hk => by
            rcases Nat.lt_succ_iff_lt_or_eq.1 hk with h | h
            · exact HS.out k h
            · subst h; rw [← HC.out]; unfold LetB DigB; omega
          have HN := Lib.hid hn
          clear hn h h'
          go_wp2_with fail
          go_roundg (s.size + 1 - (j + 1))
          case measure => have := HG.out; have := HLT.out; omega
          case rel => exact ⟨j + 1, rfl, by have := HLT.out; omega, by go_num, rfl, HN⟩
        · have t0 : decide (97 ≤ c) = true := decide_eq_true (by omega)
          have t1 : decide (c ≤ 122) = false := decide_eq_false (by omega)
          have t2 : decide (65 ≤ c) = true := decide_eq_true (by omega)
          have t3 : decide (c ≤ 90) = false := decide_eq_false (by omega)
          have t4 : decide (48 ≤ c) = true := decide_eq_true (by omega)
          have t5 : decide (c ≤ 57) = false := decide_eq_false (by omega)
          have t6 : (c == 95) = false := beq_eq_false_iff_ne.2 (by omega)
          have hno : ¬ NameOk s := fun hx => by
            have := hx.2.2 j HLT.out
            rw [← HC.out] at this
            unfold LetB DigB at this
            omega
          have HNO := Lib.hid hno
          clear hno h
          go_wp2_with fail
          go_ret
          exact .no HNO.out HWB.out
      · have hi : ¬ (j : Int) < (s.size : Int) := by omega
        have hok : NameOk s := ⟨by omega, h32, fun i hi => by
          rcases HS.out i (by omega) with h | h
          · exact .inl h
          · refine .inr ⟨?_, h⟩
            rcases Nat.eq_zero_or_pos i with h0 | h0
            · subst h0; rw [← HC0.out] at h; exact absurd h HD.out
            · exact h0⟩
        have HOK := Lib.hid hok
        clear hlt hok
        go_wp2_with fail
        go_ret
        exact .yes HOK.out HWB.out
set_option maxRecDepth 20000 in
set_option maxHeartbeats 4000000 in
theorem rname_any (s : ByteArray) (hs : s.size ≤ maxLen) (w : World) : Calls Try.prog 88 #[.string s] w (YesB (NameOk s) w) := by
  unfold maxLen at hs
  by_cases h0 : 1 ≤ s.size
  case neg =>
    have d0 : decide ((s.size : Int) < 1) = true := decide_eq_true (by omega)
    have d1 : decide (s.size < 1) = true := decide_eq_true (by omega)
    have d5 : (s.size == 0) = true := beq_iff_eq.2 (by omega)
    have hno : ¬ NameOk s := fun h => h0 h.1
    have HNO := Lib.hid hno
    go_enter Try.func88, Try.ntmps88
    go_wp2_with fail
    go_ret
    exact .no HNO.out (Below.refl _ _)
  have d0 : decide ((s.size : Int) < 1) = false := decide_eq_false (by omega)
  have d1 : decide (s.size < 1) = false := decide_eq_false (by omega)
  have d5 : (s.size == 0) = false := beq_eq_false_iff_ne.2 (by omega)
  by_cases h32 : s.size ≤ 32
  case neg =>
    have d10 : decide ((32 : Int) < (s.size : Int)) = true := decide_eq_true (by omega)
    have d11 : decide (32 < s.size) = true := decide_eq_true (by omega)
    have hno : ¬ NameOk s := fun h => h32 h.2.1
    have HNO := Lib.hid hno
    go_enter Try.func88, Try.ntmps88
    go_wp2_with fail
    go_ret
    exact .no HNO.out (Below.refl _ _)
  have d10 : decide ((32 : Int) < (s.size : Int)) = false := decide_eq_false (by omega)
  have d11 : decide (32 < s.size) = false := decide_eq_false (by omega)
  go_enter Try.func88, Try.ntmps88
  go_wp2_with fail
  go_loopg [3] (s.size + 1) (fun q i W => ∃ j : Nat, q = s.size + 1 - j ∧ j ≤ s.size ∧ i = .int .i64 (j : Int) ∧ w = W ∧ Hid (∀ k, k < j → LetB (bAt s k) ∨ (0 < k ∧ DigB (bAt s k))))
  case atStart => exact ⟨0, rfl, Nat.zero_le _, rfl, rfl, Lib.hid fun k hk => by omega⟩
  case round =>
    obtain ⟨j, hgk, hj, rfl, rfl, HS⟩ := hrel
    have HG := Lib.hid hgk
    have HJ := Lib.hid hj
    clear hgk hj
    by_cases hlt : j < s.size
    · have hg := bAt_get s j hlt
      have hr := bAt_range s j
      obtain ⟨c, hc⟩ : ∃ c, c = bAt s j := ⟨_, rfl⟩
      rw [← hc] at hg hr
      obtain ⟨r0, r1⟩ := hr
      have HC := Lib.hid hc
      have HLT := Lib.hid hlt
      have hi : (j : Int) < (s.size : Int) := by omega
      clear hc
      rcases stretch c with h | ⟨h, h'⟩ | ⟨h, h'⟩ | ⟨h, h'⟩ | ⟨h, h'⟩ | h | h | ⟨h, h'⟩ | h
      · have t0 : decide (97 ≤ c) = false := decide_eq_false (by omega)
        have t1 : decide (c ≤ 122) = true := decide_eq_true (by omega)
        have t2 : decide (65 ≤ c) = false := decide_eq_false (by omega)
        have t3 : decide (c ≤ 90) = true := decide_eq_true (by omega)
        have t4 : decide (48 ≤ c) = false := decide_eq_false (by omega)
        have t5 : decide (c ≤ 57) = true := decide_eq_true (by omega)
        have t6 : (c == 95) = false := beq_eq_false_iff_ne.2 (by omega)
        by_cases hj0 : 0 < j
        · have hj1 : decide ((0 : Int) < (j : Int)) = true := decide_eq_true (by omega)
          have hj2 : decide (0 < j) = true := decide_eq_true (by omega)
          have hno : ¬ NameOk s := fun hx => by
            have := hx.2.2 j HLT.out
            rw [← HC.out] at this
            unfold LetB DigB at this
            omega
          have HNO := Lib.hid hno
          clear hno
          go_wp2_with fail
          go_ret
          exact .no HNO.out (Below.refl _ _)
        · have hj1 : decide ((0 : Int) < (j : Int)) = false := decide_eq_false (by omega)
          have hj2 : decide (0 < j) = false := decide_eq_false (by omega)
          have hno : ¬ NameOk s := fun hx => by
            have := hx.2.2 j HLT.out
            rw [← HC.out] at this
            unfold LetB DigB at this
            omega
          have HNO := Lib.hid hno
          clear hno
          go_wp2_with fail
          go_ret
          exact .no HNO.out (Below.refl _ _)
      · have t0 : decide (97 ≤ c) = false := decide_eq_false (by omega)
        have t1 : decide (c ≤ 122) = true := decide_eq_true (by omega)
        have t2 : decide (65 ≤ c) = false := decide_eq_false (by omega)
        have t3 : decide (c ≤ 90) = true := decide_eq_true (by omega)
        have t4 : decide (48 ≤ c) = true := decide_eq_true (by omega)
        have t5 : decide (c ≤ 57) = true := decide_eq_true (by omega)
        have t6 : (c == 95) = false := beq_eq_false_iff_ne.2 (by omega)
        by_cases hj0 : 0 < j
        · have hj1 : decide ((0 : Int) < (j : Int)) = true := decide_eq_true (by omega)
          have hj2 : decide (0 < j) = true := decide_eq_true (by omega)
          have hn : ∀ k, k < j + 1 → LetB (bAt s k) ∨ (0 < k ∧ DigB (bAt s k)) := fun k hk => by
            rcases Nat.lt_succ_iff_lt_or_eq.1 hk with h | h
            · exact HS.out k h
            · subst h; rw [← HC.out]; unfold LetB DigB; omega
          have HN := Lib.hid hn
          clear hn
          go_wp2_with fail
          go_roundg (s.size + 1 - (j + 1))
          case measure => have := HG.out; have := HLT.out; omega
          case rel => exact ⟨j + 1, rfl, by have := HLT.out; omega, by go_num, rfl, HN⟩
        · have hj1 : decide ((0 : Int) < (j : Int)) = false := decide_eq_false (by omega)
          have hj2 : decide (0 < j) = false := decide_eq_false (by omega)
          have hno : ¬ NameOk s := fun hx => by
            have := hx.2.2 j HLT.out
            rw [← HC.out] at this
            unfold LetB DigB at this
            omega
          have HNO := Lib.hid hno
          clear hno
          go_wp2_with fail
          go_ret
          exact .no HNO.out (Below.refl _ _)
      · have t0 : decide (97 ≤ c) = false := decide_eq_false (by omega)
        have t1 : decide (c ≤ 122) = true := decide_eq_true (by omega)
        have t2 : decide (65 ≤ c) = false := decide_eq_false (by omega)
        have t3 : decide (c ≤ 90) = true := decide_eq_true (by omega)
        have t4 : decide (48 ≤ c) = true := decide_eq_true (by omega)
        have t5 : decide (c ≤ 57) = false := decide_eq_false (by omega)
        have t6 : (c == 95) = false := beq_eq_false_iff_ne.2 (by omega)
        by_cases hj0 : 0 < j
        · have hj1 : decide ((0 : Int) < (j : Int)) = true := decide_eq_true (by omega)
          have hj2 : decide (0 < j) = true := decide_eq_true (by omega)
          have hno : ¬ NameOk s := fun hx => by
            have := hx.2.2 j HLT.out
            rw [← HC.out] at this
            unfold LetB DigB at this
            omega
          have HNO := Lib.hid hno
          clear hno
          go_wp2_with fail
          go_ret
          exact .no HNO.out (Below.refl _ _)
        · have hj1 : decide ((0 : Int) < (j : Int)) = false := decide_eq_false (by omega)
          have hj2 : decide (0 < j) = false := decide_eq_false (by omega)
          have hno : ¬ NameOk s := fun hx => by
            have := hx.2.2 j HLT.out
            rw [← HC.out] at this
            unfold LetB DigB at this
            omega
          have HNO := Lib.hid hno
          clear hno
          go_wp2_with fail
          go_ret
          exact .no HNO.out (Below.refl _ _)
      · have t0 : decide (97 ≤ c) = false := decide_eq_false (by omega)
        have t1 : decide (c ≤ 122) = true := decide_eq_true (by omega)
        have t2 : decide (65 ≤ c) = true := decide_eq_true (by omega)
        have t3 : decide (c ≤ 90) = true := decide_eq_true (by omega)
        have t4 : decide (48 ≤ c) = true := decide_eq_true (by omega)
        have t5 : decide (c ≤ 57) = false := decide_eq_false (by omega)
        have t6 : (c == 95) = false := beq_eq_false_iff_ne.2 (by omega)
        have hn : ∀ k, k < j + 1 → LetB (bAt s k) ∨ (0 < k ∧ DigB (bAt s k)) := fun k hk => by
          rcases Nat.lt_succ_iff_lt_or_eq.1 hk with h | h
          · exact HS.out k h
          · subst h; rw [← HC.out]; unfold LetB DigB; omega
        have HN := Lib.hid hn
        clear hn
        go_wp2_with fail
        go_roundg (s.size + 1 - (j + 1))
        case measure => have := HG.out; have := HLT.out; omega
        case rel => exact ⟨j + 1, rfl, by have := HLT.out; omega, by go_num, rfl, HN⟩
      · have t0 : decide (97 ≤ c) = false := decide_eq_false (by omega)
        have t1 : decide (c ≤ 122) = true := decide_eq_true (by omega)
        have t2 : decide (65 ≤ c) = true := decide_eq_true (by omega)
        have t3 : decide (c ≤ 90) = false := decide_eq_false (by omega)
        have t4 : decide (48 ≤ c) = true := decide_eq_true (by omega)
        have t5 : decide (c ≤ 57) = false := decide_eq_false (by omega)
        have t6 : (c == 95) = false := beq_eq_false_iff_ne.2 (by omega)
        by_cases hj0 : 0 < j
        · have hj1 : decide ((0 : Int) < (j : Int)) = true := decide_eq_true (by omega)
          have hj2 : decide (0 < j) = true := decide_eq_true (by omega)
          have hno : ¬ NameOk s := fun hx => by
            have := hx.2.2 j HLT.out
            rw [← HC.out] at this
            unfold LetB DigB at this
            omega
          have HNO := Lib.hid hno
          clear hno
          go_wp2_with fail
          go_ret
          exact .no HNO.out (Below.refl _ _)
        · have hj1 : decide ((0 : Int) < (j : Int)) = false := decide_eq_false (by omega)
          have hj2 : decide (0 < j) = false := decide_eq_false (by omega)
          have hno : ¬ NameOk s := fun hx => by
            have := hx.2.2 j HLT.out
            rw [← HC.out] at this
            unfold LetB DigB at this
            omega
          have HNO := Lib.hid hno
          clear hno
          go_wp2_with fail
          go_ret
          exact .no HNO.out (Below.refl _ _)
      · have t0 : decide (97 ≤ c) = false := decide_eq_false (by omega)
        have t1 : decide (c ≤ 122) = true := decide_eq_true (by omega)
        have t2 : decide (65 ≤ c) = true := decide_eq_true (by omega)
        have t3 : decide (c ≤ 90) = false := decide_eq_false (by omega)
        have t4 : decide (48 ≤ c) = true := decide_eq_true (by omega)
        have t5 : decide (c ≤ 57) = false := decide_eq_false (by omega)
        have t6 : (c == 95) = true := beq_iff_eq.2 (by omega)
        have hn : ∀ k, k < j + 1 → LetB (bAt s k) ∨ (0 < k ∧ DigB (bAt s k)) := fun k hk => by
          rcases Nat.lt_succ_iff_lt_or_eq.1 hk with h | h
          · exact HS.out k h
          · subst h; rw [← HC.out]; unfold LetB DigB; omega
        have HN := Lib.hid hn
        clear hn
        go_wp2_with fail
        go_roundg (s.size + 1 - (j + 1))
        case measure => have := HG.out; have := HLT.out; omega
        case rel => exact ⟨j + 1, rfl, by have := HLT.out; omega, by go_num, rfl, HN⟩
      · have t0 : decide (97 ≤ c) = false := decide_eq_false (by omega)
        have t1 : decide (c ≤ 122) = true := decide_eq_true (by omega)
        have t2 : decide (65 ≤ c) = true := decide_eq_true (by omega)
        have t3 : decide (c ≤ 90) = false := decide_eq_false (by omega)
        have t4 : decide (48 ≤ c) = true := decide_eq_true (by omega)
        have t5 : decide (c ≤ 57) = false := decide_eq_false (by omega)
        have t6 : (c == 95) = false := beq_eq_false_iff_ne.2 (by omega)
        by_cases hj0 : 0 < j
        · have hj1 : decide ((0 : Int) < (j : Int)) = true := decide_eq_true (by omega)
          have hj2 : decide (0 < j) = true := decide_eq_true (by omega)
          have hno : ¬ NameOk s := fun hx => by
            have := hx.2.2 j HLT.out
            rw [← HC.out] at this
            unfold LetB DigB at this
            omega
          have HNO := Lib.hid hno
          clear hno
          go_wp2_with fail
          go_ret
          exact .no HNO.out (Below.refl _ _)
        · have hj1 : decide ((0 : Int) < (j : Int)) = false := decide_eq_false (by omega)
          have hj2 : decide (0 < j) = false := decide_eq_false (by omega)
          have hno : ¬ NameOk s := fun hx => by
            have := hx.2.2 j HLT.out
            rw [← HC.out] at this
            unfold LetB DigB at this
            omega
          have HNO := Lib.hid hno
          clear hno
          go_wp2_with fail
          go_ret
          exact .no HNO.out (Below.refl _ _)
      · have t0 : decide (97 ≤ c) = true := decide_eq_true (by omega)
        have t1 : decide (c ≤ 122) = true := decide_eq_true (by omega)
        have t2 : decide (65 ≤ c) = true := decide_eq_true (by omega)
        have t3 : decide (c ≤ 90) = false := decide_eq_false (by omega)
        have t4 : decide (48 ≤ c) = true := decide_eq_true (by omega)
        have t5 : decide (c ≤ 57) = false := decide_eq_false (by omega)
        have t6 : (c == 95) = false := beq_eq_false_iff_ne.2 (by omega)
        have hn : ∀ k, k < j + 1 → LetB (bAt s k) ∨ (0 < k ∧ DigB (bAt s k)) := fun k hk => by
          rcases Nat.lt_succ_iff_lt_or_eq.1 hk with h | h
          · exact HS.out k h
          · subst h; rw [← HC.out]; unfold LetB DigB; omega
        have HN := Lib.hid hn
        clear hn
        go_wp2_with fail
        go_roundg (s.size + 1 - (j + 1))
        case measure => have := HG.out; have := HLT.out; omega
        case rel => exact ⟨j + 1, rfl, by have := HLT.out; omega, by go_num, rfl, HN⟩
      · have t0 : decide (97 ≤ c) = true := decide_eq_true (by omega)
        have t1 : decide (c ≤ 122) = false := decide_eq_false (by omega)
        have t2 : decide (65 ≤ c) = true := decide_eq_true (by omega)
        have t3 : decide (c ≤ 90) = false := decide_eq_false (by omega)
        have t4 : decide (48 ≤ c) = true := decide_eq_true (by omega)
        have t5 : decide (c ≤ 57) = false := decide_eq_false (by omega)
        have t6 : (c == 95) = false := beq_eq_false_iff_ne.2 (by omega)
        by_cases hj0 : 0 < j
        · have hj1 : decide ((0 : Int) < (j : Int)) = true := decide_eq_true (by omega)
          have hj2 : decide (0 < j) = true := decide_eq_true (by omega)
          have hno : ¬ NameOk s := fun hx => by
            have := hx.2.2 j HLT.out
            rw [← HC.out] at this
            unfold LetB DigB at this
            omega
          have HNO := Lib.hid hno
          clear hno
          go_wp2_with fail
          go_ret
          exact .no HNO.out (Below.refl _ _)
        · have hj1 : decide ((0 : Int) < (j : Int)) = false := decide_eq_false (by omega)
          have hj2 : decide (0 < j) = false := decide_eq_false (by omega)
          have hno : ¬ NameOk s := fun hx => by
            have := hx.2.2 j HLT.out
            rw [← HC.out] at this
            unfold LetB DigB at this
            omega
          have HNO := Lib.hid hno
          clear hno
          go_wp2_with fail
          go_ret
          exact .no HNO.out (Below.refl _ _)
    · have hi : ¬ (j : Int) < (s.size : Int) := by omega
      have hok : NameOk s := ⟨h0, h32, fun i hi => HS.out i (by omega)⟩
      have HOK := Lib.hid hok
      clear hlt hok
      go_wp2_with fail
      go_ret
      exact .yes HOK.out (Below.refl _ _)
end Go.Proofs.Ytbhcgjahlfpjoaa
