/- A rune's number among runes; alike lists of runes. -/
import Derived.Test.YtbhcgjahlfpjoaaRs1
import Derived.Test.YtbhcgjahlfpjoaaPc8
namespace Go.Proofs.Ytbhcgjahlfpjoaa
open Go.RowKit

/-- A rune's number among runes. -/
def classZ (l : List Int) (c : Int) : Int := if c < 0 ∨ 1114111 < c then -1 else (l.countP (fun x => decide (x ≤ c)) : Int) - 1
theorem countP_take {l : List Int} {p : Int → Bool} {j : Nat} {x : Int} (h : l[j]? = some x) : (l.take (j + 1)).countP p = (l.take j).countP p + if p x then 1 else 0 := by
  rw [List.take_add_one, h]
  simp [List.countP_append, List.countP_cons]

set_option maxHeartbeats 1000000 in
theorem class_any {w : World} {A : Option Addr} {n c : Nat} {l : List Int} (hA : RnIn w A n c l) (x : Int) :
    Calls Try.prog 49 #[.slice A n c, .int .i32 x] w fun e w' => e = .returned (.int .i64 (classZ l x)) ∧ w' = w := by
  have h1 := hA.max
  have h2 := hA.le
  unfold maxLen at h1
  have hnc : (n : Int) ≤ 9223372036854775807 := by omega
  have HA := Lib.hid hA
  clear hA h1 h2
  by_cases hx : x < 0 ∨ 1114111 < x
  · have hz : classZ l x = -1 := by unfold classZ; rw [if_pos hx]
    have HZ := Lib.hid hz
    clear hz
    by_cases h0 : x < 0
    · have d0 : decide (x < 0) = true := decide_eq_true h0
      clear hx
      go_enter Try.func49, Try.ntmps49
      go_wp2_with fail
      go_ret
      exact ⟨by rw [HZ.out]; rfl, rfl⟩
    · have d0 : decide (x < 0) = false := decide_eq_false h0
      have h1 : 1114111 < x := by omega
      have d1 : decide (1114111 < x) = true := decide_eq_true h1
      clear hx
      go_enter Try.func49, Try.ntmps49
      go_wp2_with fail
      go_ret
      exact ⟨by rw [HZ.out]; rfl, rfl⟩
  · have hz : classZ l x = (l.countP (fun y => decide (y ≤ x)) : Int) - 1 := by unfold classZ; rw [if_neg hx]
    have h0 : ¬ x < 0 := by omega
    have h1 : ¬ 1114111 < x := by omega
    have d0 : decide (x < 0) = false := decide_eq_false h0
    have d1 : decide (1114111 < x) = false := decide_eq_false h1
    have HZ := Lib.hid hz
    clear hx hz
    go_enter Try.func49, Try.ntmps49
    go_wp2_with fail
    go_loopg [5, 16] (n + 1) (fun q a i wr => ∃ (j : Nat), q = n + 1 - j ∧ j ≤ n ∧ i = .int .i64 (j : Int) ∧ a = .int .i64 (((l.take j).countP (fun y => decide (y ≤ x)) : Int) - 1) ∧ w = wr)
    case atStart => exact ⟨0, rfl, by omega, rfl, rfl, rfl⟩
    case round =>
      obtain ⟨j, hgk, hj, rfl, rfl, rfl⟩ := hrel
      have HG := Lib.hid hgk
      clear hgk
      have hcl : (l.take j).countP (fun y => decide (y ≤ x)) ≤ j := Nat.le_trans List.countP_le_length (by simp; omega)
      by_cases hlt : j < n
      · obtain ⟨b1, o1, y, rfl, _, hy, hc1⟩ := HA.out.at hlt
        have c1 := hc1 w (Same.refl _ _ _)
        have hi : (j : Int) < (n : Int) := by omega
        have HT : Hid _ := Lib.hid (countP_take (p := fun y => decide (y ≤ x)) hy)
        have HLT := Lib.hid hlt
        generalize (l.take j).countP (fun y => decide (y ≤ x)) = t at hcl HT ⊢
        have hw : IntKind.i64.wrap ((t : Int) - 1 + 1) = (t : Int) := by rw [IntKind.wrap_i64]; omega
        have hw2 : wrap64 ((t : Int) - 1 + 1) = (t : Int) := by unfold wrap64; omega
        clear hc1 hy hlt
        by_cases hyx : y ≤ x
        · have d2 : decide (y ≤ x) = true := decide_eq_true hyx
          have HE : Hid (List.countP (fun y => decide (y ≤ x)) (l.take (j + 1)) = t + 1) := Lib.hid (by rw [HT.out]; simp [hyx])
          clear HT
          go_wp2_with fail
          go_roundg (n + 1 - (j + 1))
          case measure => have := HG.out; have := HLT.out; omega
          case rel => exact ⟨j + 1, rfl, by have := HLT.out; omega, by go_num, by rw [HE.out]; simp only [Value.int.injEq, true_and]; omega, rfl⟩
        · have d2 : decide (y ≤ x) = false := decide_eq_false hyx
          have HE : Hid (List.countP (fun y => decide (y ≤ x)) (l.take (j + 1)) = t) := Lib.hid (by rw [HT.out]; simp [hyx])
          clear HT
          go_wp2_with fail
          go_roundg (n + 1 - (j + 1))
          case measure => have := HG.out; have := HLT.out; omega
          case rel => exact ⟨j + 1, rfl, by have := HLT.out; omega, by go_num, by rw [HE.out], rfl⟩
      · have hi : ¬ (j : Int) < (n : Int) := by omega
        have hjn : j = n := by omega
        have HE : Hid (l.take j = l) := Lib.hid (List.take_of_length_le (by have := HA.out.len; omega))
        clear hlt hjn
        go_wp2_with fail
        go_ret
        exact ⟨by rw [HZ.out, HE.out]; rfl, rfl⟩

set_option maxHeartbeats 1000000 in
theorem rclass_any {w : World} {A : Option Addr} {n c : Nat} {l : List Int} (hA : RnIn w A n c l) (x : Int) :
    Calls Try.prog 50 #[.slice A n c, .int .i32 x] w fun e w' => e = .returned (.int .i64 (classZ l x)) ∧ w' = w := by
  have h1 := hA.max
  have h2 := hA.le
  unfold maxLen at h1
  have hnc : (n : Int) ≤ 9223372036854775807 := by omega
  have HA := Lib.hid hA
  clear hA h1 h2
  by_cases hx : x < 0 ∨ 1114111 < x
  · have hz : classZ l x = -1 := by unfold classZ; rw [if_pos hx]
    have HZ := Lib.hid hz
    clear hz
    by_cases h0 : x < 0
    · have d0 : decide (x < 0) = true := decide_eq_true h0
      clear hx
      go_enter Try.func50, Try.ntmps50
      go_wp2_with fail
      go_ret
      exact ⟨by rw [HZ.out]; rfl, rfl⟩
    · have d0 : decide (x < 0) = false := decide_eq_false h0
      have h1 : 1114111 < x := by omega
      have d1 : decide (1114111 < x) = true := decide_eq_true h1
      clear hx
      go_enter Try.func50, Try.ntmps50
      go_wp2_with fail
      go_ret
      exact ⟨by rw [HZ.out]; rfl, rfl⟩
  · have hz : classZ l x = (l.countP (fun y => decide (y ≤ x)) : Int) - 1 := by unfold classZ; rw [if_neg hx]
    have h0 : ¬ x < 0 := by omega
    have h1 : ¬ 1114111 < x := by omega
    have d0 : decide (x < 0) = false := decide_eq_false h0
    have d1 : decide (1114111 < x) = false := decide_eq_false h1
    have HZ := Lib.hid hz
    clear hx hz
    go_enter Try.func50, Try.ntmps50
    go_wp2_with fail
    go_loopg [5, 6] (n + 1) (fun q a i wr => ∃ (j : Nat), q = n + 1 - j ∧ j ≤ n ∧ i = .int .i64 (j : Int) ∧ a = .int .i64 (((l.take j).countP (fun y => decide (y ≤ x)) : Int) - 1) ∧ w = wr)
    case atStart => exact ⟨0, rfl, by omega, rfl, rfl, rfl⟩
    case round =>
      obtain ⟨j, hgk, hj, rfl, rfl, rfl⟩ := hrel
      have HG := Lib.hid hgk
      clear hgk
      have hcl : (l.take j).countP (fun y => decide (y ≤ x)) ≤ j := Nat.le_trans List.countP_le_length (by simp; omega)
      by_cases hlt : j < n
      · obtain ⟨b1, o1, y, rfl, _, hy, hc1⟩ := HA.out.at hlt
        have c1 := hc1 w (Same.refl _ _ _)
        have hi : (j : Int) < (n : Int) := by omega
        have HT : Hid _ := Lib.hid (countP_take (p := fun y => decide (y ≤ x)) hy)
        have HLT := Lib.hid hlt
        generalize (l.take j).countP (fun y => decide (y ≤ x)) = t at hcl HT ⊢
        have hw : IntKind.i64.wrap ((t : Int) - 1 + 1) = (t : Int) := by rw [IntKind.wrap_i64]; omega
        have hw2 : wrap64 ((t : Int) - 1 + 1) = (t : Int) := by unfold wrap64; omega
        clear hc1 hy hlt
        by_cases hyx : y ≤ x
        · have d2 : decide (y ≤ x) = true := decide_eq_true hyx
          have HE : Hid (List.countP (fun y => decide (y ≤ x)) (l.take (j + 1)) = t + 1) := Lib.hid (by rw [HT.out]; simp [hyx])
          clear HT
          go_wp2_with fail
          go_roundg (n + 1 - (j + 1))
          case measure => have := HG.out; have := HLT.out; omega
          case rel => exact ⟨j + 1, rfl, by have := HLT.out; omega, by go_num, by rw [HE.out]; simp only [Value.int.injEq, true_and]; omega, rfl⟩
        · have d2 : decide (y ≤ x) = false := decide_eq_false hyx
          have HE : Hid (List.countP (fun y => decide (y ≤ x)) (l.take (j + 1)) = t) := Lib.hid (by rw [HT.out]; simp [hyx])
          clear HT
          go_wp2_with fail
          go_roundg (n + 1 - (j + 1))
          case measure => have := HG.out; have := HLT.out; omega
          case rel => exact ⟨j + 1, rfl, by have := HLT.out; omega, by go_num, by rw [HE.out], rfl⟩
      · have hi : ¬ (j : Int) < (n : Int) := by omega
        have hjn : j = n := by omega
        have HE : Hid (l.take j = l) := Lib.hid (List.take_of_length_le (by have := HA.out.len; omega))
        clear hlt hjn
        go_wp2_with fail
        go_ret
        exact ⟨by rw [HZ.out, HE.out]; rfl, rfl⟩

set_option maxHeartbeats 1000000 in
theorem sameR_any {w : World} {A B : Option Addr} {n c m d : Nat} {l k : List Int} (hA : RnIn w A n c l) (hB : RnIn w B m d k) :
    Calls Try.prog 46 #[.slice A n c, .slice B m d] w (SameB l k w) := by
  have h1 := hA.max
  have h2 := hA.le
  unfold maxLen at h1
  have hnc : (n : Int) ≤ 9223372036854775807 := by omega
  have HA := Lib.hid hA
  have HB := Lib.hid hB
  clear hA hB h1 h2
  by_cases hnm : n = m
  · subst hnm
    have d0 : ((n : Int) != (n : Int)) = false := by simp
    go_enter Try.func46, Try.ntmps46
    go_wp2_with fail
    go_loopg [5] (n + 1) (fun q i wr => ∃ (j : Nat), q = n + 1 - j ∧ j ≤ n ∧ i = .int .i64 (j : Int) ∧ Hid (Below w.heap.size w wr ∧ ∀ i, i < j → l[i]? = k[i]?))
    case atStart => exact ⟨0, rfl, by omega, rfl, Lib.hid ⟨Below.refl _ _, fun i hi => by omega⟩⟩
    case round =>
      obtain ⟨j, hgk, hj, rfl, HR⟩ := hrel
      have HG := Lib.hid hgk
      have HJ := Lib.hid hj
      clear hgk hj
      by_cases hlt : j < n
      · obtain ⟨b1, o1, x, rfl, _, hx, hc1⟩ := HA.out.at hlt
        obtain ⟨b2, o2, y, rfl, _, hy, hc2⟩ := HB.out.at hlt
        have c1 := hc1 wr (.of_below HR.out.1 (Nat.le_refl _))
        have c2 := hc2 wr (.of_below HR.out.1 (Nat.le_refl _))
        have hi : (j : Int) < (n : Int) := by omega
        have HX := Lib.hid hx
        have HY := Lib.hid hy
        have HLT := Lib.hid hlt
        clear hc1 hc2 hx hy hlt
        by_cases hxy : x = y
        · have d1 : (x != y) = false := by rw [hxy]; simp
          have HN : Hid (∀ i, i < j + 1 → l[i]? = k[i]?) := Lib.hid fun i hi => by
            rcases Nat.lt_succ_iff_lt_or_eq.1 hi with h | h
            · exact HR.out.2 i h
            · subst h; rw [HX.out, HY.out, hxy]
          clear hxy
          go_wp2_with fail
          go_region
          go_wp2_with fail
          go_roundg (n + 1 - (j + 1))
          case measure => have := HG.out; have := HLT.out; omega
          case rel => exact ⟨j + 1, rfl, by have := HLT.out; omega, by go_num, Lib.hid ⟨HR.out.1.drew, HN.out⟩⟩
        · have d1 : (x != y) = true := bne_iff_ne.2 hxy
          have HN : Hid (¬ l = k) := Lib.hid fun h => by
            subst h
            have := HX.out.symm.trans HY.out
            injection this with this
            exact hxy this
          clear hxy
          go_wp2_with fail
          go_region
          go_wp2_with fail
          go_ret
          exact ⟨_, rfl, ⟨fun h => (by cases h), fun h => absurd h HN.out⟩, HR.out.1.drew⟩
      · have hi : ¬ (j : Int) < (n : Int) := by omega
        have HN : Hid (l = k) := Lib.hid (List.ext_getElem? fun i => by
          rcases Nat.lt_or_ge i j with h | h
          · exact HR.out.2 i h
          · have h1 := HA.out.len
            have h2 := HB.out.len
            rw [List.getElem?_eq_none (by omega), List.getElem?_eq_none (by omega)])
        clear hlt
        go_wp2_with fail
        go_ret
        exact ⟨_, rfl, ⟨fun _ => HN.out, fun _ => rfl⟩, HR.out.1⟩
  · have d0 : ((n : Int) != (m : Int)) = true := bne_iff_ne.2 (by omega)
    have HN : Hid (¬ l = k) := Lib.hid fun h => hnm (by rw [← HA.out.len, ← HB.out.len, h])
    clear hnm
    go_enter Try.func46, Try.ntmps46
    go_wp2_with fail
    go_ret
    exact ⟨_, rfl, ⟨fun h => (by cases h), fun h => absurd h HN.out⟩, Below.refl _ _⟩


end Go.Proofs.Ytbhcgjahlfpjoaa
