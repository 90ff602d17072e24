/- Layer 3: head, same; TablesPairs: the walk. -/
import Derived.Test.YtoglnankopdohaaRn3
import Derived.Test.YtoglnankopdohaaNm2
namespace Go.Proofs.Ytoglnankopdohaa
open Go.RowKit

set_option maxRecDepth 20000 in
set_option maxHeartbeats 1000000 in
theorem head3_any (w : World) : Calls Try.prog 23 #[] w fun e w' => e = .returned (.bool true) ∧ Below w.heap.size w w' := by
  have hx := orbit_any 97 w
  have hn := fun W => named_Lu W
  simp only [tn_Lu] at hn
  have ho : orbL 97 = [65, 97] := by decide
  rw [ho] at hx
  go_enter Try.func23, Try.ntmps23
  go_wp2_with fail
  refine hx.mono ?_
  rintro e w1 ⟨B, m, d, rfl, hR, hb⟩
  have hm : m = 2 := hR.len.symm
  subst hm
  obtain ⟨b, o, x, hB, hlt, hx0, c0⟩ := hR.at (k := 0) (by omega)
  obtain ⟨b', o', y, hB', _, hx1, c1⟩ := hR.at (k := 1) (by omega)
  subst hB
  injection hB' with hB'
  injection hB' with e1 e2
  subst e1; subst e2
  injection hx0 with hx0
  injection hx1 with hx1
  subst hx0; subst hx1
  have hs : Same 0 w1.heap.size w1 (w1.alloc (.cells (rgCells tx_Lu).toArray 28)) := (Same.refl _ _ _).alloc (Nat.le_refl _) _
  have d0 := c0 _ hs
  rw [Nat.add_zero] at d0
  have d1 := c1 _ hs
  have HB := Lib.hid (Below.on hb ((Below.refl _ w1).alloc (Nat.le_refl _) (.cells (rgCells tx_Lu).toArray 28)))
  clear hx hR hb c0 c1 hs hlt
  go_wp2_with fail
  refine (hn w1).mono ?_
  rintro e w2 ⟨rfl, hw⟩
  rw [← hw] at d0 d1 HB
  clear hw hn
  go_wp2_with fail
  go_ret
  exact ⟨rfl, HB.out⟩

set_option maxHeartbeats 2000000 in
theorem same3_any {w : World} {A B : Option Addr} {n c m d : Nat} {l r : List Int} (hA : RnIn w A n c l) (hB : RnIn w B m d r) :
    Calls Try.prog 27 #[.slice A n c, .slice B m d] w fun e w' => e = .returned (.bool (decide (l = r))) ∧ Below w.heap.size w w' := by
  have h1 := hA.max
  have h2 := hA.le
  unfold maxLen at h1
  have h3 := hB.max
  have h4 := hB.le
  unfold maxLen at h3
  have hnc : (n : Int) ≤ 9223372036854775807 := by omega
  by_cases hnm : n = m
  · subst hnm
    have HA := Lib.hid hA
    have HB := Lib.hid hB
    clear hA hB h1 h2 h3 h4
    go_enter Try.func27, Try.ntmps27
    go_wp2_with fail
    go_loopg [5] (n + 1) (fun q i wr => ∃ (j : Nat), q = n + 1 - j ∧ j ≤ n ∧ i = .int .i64 (j : Int) ∧ Hid (Below w.heap.size w wr) ∧ Hid (∀ k, k < j → l[k]? = r[k]?))
    case atStart => exact ⟨0, rfl, by omega, rfl, Lib.hid (Below.refl _ _), Lib.hid (by intro k hk; omega)⟩
    case round =>
      obtain ⟨j, hgk, hj, rfl, HW, HR⟩ := hrel
      have HG := Lib.hid hgk
      clear hgk
      by_cases hlt : j < n
      · obtain ⟨b, o, x, rfl, hb, hp, hc⟩ := HA.out.at hlt
        obtain ⟨b2, o2, y, rfl, hb2, hp2, hc2⟩ := HB.out.at hlt
        have c1 := hc wr (.of_below HW.out (Nat.le_refl _))
        have c2 := hc2 wr (.of_below HW.out (Nat.le_refl _))
        have hi : (j : Int) < (n : Int) := by omega
        have HP := Lib.hid hp
        have HP2 := Lib.hid hp2
        have HLT := Lib.hid hlt
        clear hc hb hp hlt hc2 hb2 hp2
        by_cases hxy : x = y
        · have hb : (x == y) = true := beq_iff_eq.2 hxy
          have hb2 : (x != y) = false := by rw [bne, hb]; rfl
          have HN : Hid (∀ k, k < j + 1 → l[k]? = r[k]?) := Lib.hid fun k hk => by
            rcases Nat.lt_succ_iff_lt_or_eq.1 hk with h | h
            · exact HR.out k h
            · subst h; rw [HP.out, HP2.out, hxy]
          clear hxy HA HB HR
          go_wp2_with fail
          go_quiet (fail)
          go_wp2_with fail
          go_roundg (n + 1 - (j + 1))
          case measure => have := HG.out; have := HLT.out; omega
          case rel => exact ⟨j + 1, rfl, by have := HLT.out; omega, by go_num, Lib.hid HW.out.drewN, HN⟩
        · have hb : (x == y) = false := beq_eq_false_iff_ne.2 hxy
          have hb2 : (x != y) = true := by rw [bne, hb]; rfl
          have hno : l ≠ r := fun h => by
            have := HP.out; rw [h, HP2.out] at this; injection this with this; exact hxy this.symm
          have HY := Lib.hid hno
          clear hxy hno HA HB HR
          go_wp2_with fail
          go_quiet (fail)
          go_wp2_with fail
          go_ret
          exact ⟨retB (decide_eq_false HY.out).symm, HW.out.drewN⟩
      · have hjn : j = n := by omega
        subst hjn
        have hi : ¬ (j : Int) < (j : Int) := by omega
        have hyes : l = r := List.ext_getElem? fun k => by
          rcases Nat.lt_or_ge k j with h | h
          · exact HR.out k h
          · rw [List.getElem?_eq_none (by have := HA.out.len; omega), List.getElem?_eq_none (by have := HB.out.len; omega)]
        have HY := Lib.hid hyes
        clear hyes hlt HA HB HR
        go_wp2_with fail
        go_ret
        exact ⟨retB (decide_eq_true HY.out).symm, HW.out⟩
  · have hno : l ≠ r := fun h => hnm (by rw [← hA.len, ← hB.len, h])
    have HY := Lib.hid hno
    have hi : ¬ (n : Int) = (m : Int) := by omega
    clear hA hB hno
    go_enter Try.func27, Try.ntmps27
    go_wp2_with fail
    go_ret
    exact ⟨retB (decide_eq_false HY.out).symm, Below.refl _ _⟩

theorem orb128 : ∀ k : Nat, k < 128 → ((97 ≤ k ∧ k ≤ 122 → orbL (k : Int) = [(k : Int) - 32, (k : Int)] ∨ (k = 107 ∨ k = 115)) ∧ (65 ≤ k ∧ k ≤ 90 → orbL (k : Int) = [(k : Int), (k : Int) + 32] ∨ (k = 75 ∨ k = 83)) ∧ (¬ (97 ≤ k ∧ k ≤ 122) → ¬ (65 ≤ k ∧ k ≤ 90) → orbL (k : Int) = [(k : Int)])) := by decide

set_option maxRecDepth 20000 in
set_option maxHeartbeats 4000000 in
theorem pairs_neg {w : World} (c : Int) (h : c < 0) :
    Calls Try.prog 5 #[.int .i32 c] w fun e w' => e = .returned (.bool true) ∧ Below w.heap.size w w' := by
  have hx := fun W => orbit_any c W
  have HB := Lib.hid (Below.refl w.heap.size w)
  go_enter Try.func5, Try.ntmps5
  go_wp2_with fail
  refine (head3_any w).mono ?_
  rintro e w1 ⟨rfl, hb0⟩
  replace HB := Lib.hid (Below.on HB.out hb0)
  clear hb0
  go_wp2_with fail
  refine (hx w1).mono ?_
  rintro e w2 ⟨B, m, d, rfl, hR, hb0⟩
  replace HB := Lib.hid (Below.on HB.out hb0)
  clear hb0 hx
  have hmax := hR.max; have hle := hR.le; unfold maxLen at hmax
  have hmn : (m : Int) ≤ 9223372036854775807 := by omega
  clear hR
  go_wp2_with fail
  go_ret
  exact ⟨rfl, HB.out⟩
set_option maxRecDepth 20000 in
set_option maxHeartbeats 4000000 in
theorem pairs_big {w : World} (c : Int) (h : 127 < c) :
    Calls Try.prog 5 #[.int .i32 c] w fun e w' => e = .returned (.bool true) ∧ Below w.heap.size w w' := by
  have hx := fun W => orbit_any c W
  have h0 : ¬ c < 0 := by omega
  have HB := Lib.hid (Below.refl w.heap.size w)
  go_enter Try.func5, Try.ntmps5
  go_wp2_with fail
  refine (head3_any w).mono ?_
  rintro e w1 ⟨rfl, hb0⟩
  replace HB := Lib.hid (Below.on HB.out hb0)
  clear hb0
  go_wp2_with fail
  refine (hx w1).mono ?_
  rintro e w2 ⟨B, m, d, rfl, hR, hb0⟩
  replace HB := Lib.hid (Below.on HB.out hb0)
  clear hb0 hx
  have hmax := hR.max; have hle := hR.le; unfold maxLen at hmax
  have hmn : (m : Int) ≤ 9223372036854775807 := by omega
  clear hR
  go_wp2_with fail
  go_ret
  exact ⟨rfl, HB.out⟩
set_option maxRecDepth 20000 in
set_option maxHeartbeats 4000000 in
theorem pairs_a {w : World} (c : Int) (hc0 : 0 ≤ c) (hc1 : c < 65) :
    Calls Try.prog 5 #[.int .i32 c] w fun e w' => e = .returned (.bool true) ∧ Below w.heap.size w w' := by
  have hx := fun W => orbit_any c W
  have h1 := ((orb128 c.toNat (by omega)).2.2 (by omega) (by omega))
  rw [show (c.toNat : Int) = c by omega] at h1
  rw [h1] at hx
  have h0 : ¬ c < 0 := by omega
  have h2 : ¬ 127 < c := by omega
  clear h1
  have d1 : decide (97 ≤ c) = false := decide_eq_false (by omega)
  have d2 : decide (65 ≤ c) = false := decide_eq_false (by omega)
  have HB := Lib.hid (Below.refl w.heap.size w)
  go_enter Try.func5, Try.ntmps5
  go_wp2_with fail
  refine (head3_any w).mono ?_
  rintro e w1 ⟨rfl, hb0⟩
  replace HB := Lib.hid (Below.on HB.out hb0)
  clear hb0
  go_wp2_with fail
  refine (hx w1).mono ?_
  rintro e w2 ⟨B, m, d, rfl, hR, hb0⟩
  replace HB := Lib.hid (Below.on HB.out hb0)
  clear hb0 hx
  have hmax := hR.max; have hle := hR.le; unfold maxLen at hmax
  have hmn : (m : Int) ≤ 9223372036854775807 := by omega
  have hm : m = 1 := hR.len.symm
  subst hm
  obtain ⟨b, o, y, rfl, _, hp, hc⟩ := hR.at (k := 0) (by omega)
  injection hp with hp
  subst hp
  have c1 := hc w2 (Same.refl _ _ _)
  rw [Nat.add_zero] at c1
  clear hR hc hmax hle hmn
  go_wp2_with fail
  go_ret
  exact ⟨rfl, HB.out⟩
set_option maxRecDepth 20000 in
set_option maxHeartbeats 4000000 in
theorem pairs_b {w : World} (c : Int) (hc0 : 90 < c) (hc1 : c < 97) :
    Calls Try.prog 5 #[.int .i32 c] w fun e w' => e = .returned (.bool true) ∧ Below w.heap.size w w' := by
  have hx := fun W => orbit_any c W
  have h1 := ((orb128 c.toNat (by omega)).2.2 (by omega) (by omega))
  rw [show (c.toNat : Int) = c by omega] at h1
  rw [h1] at hx
  have h0 : ¬ c < 0 := by omega
  have h2 : ¬ 127 < c := by omega
  clear h1
  have d1 : decide (97 ≤ c) = false := decide_eq_false (by omega)
  have d2 : decide (65 ≤ c) = true := decide_eq_true (by omega)
  have d3 : decide (c ≤ 90) = false := decide_eq_false (by omega)
  have HB := Lib.hid (Below.refl w.heap.size w)
  go_enter Try.func5, Try.ntmps5
  go_wp2_with fail
  refine (head3_any w).mono ?_
  rintro e w1 ⟨rfl, hb0⟩
  replace HB := Lib.hid (Below.on HB.out hb0)
  clear hb0
  go_wp2_with fail
  refine (hx w1).mono ?_
  rintro e w2 ⟨B, m, d, rfl, hR, hb0⟩
  replace HB := Lib.hid (Below.on HB.out hb0)
  clear hb0 hx
  have hmax := hR.max; have hle := hR.le; unfold maxLen at hmax
  have hmn : (m : Int) ≤ 9223372036854775807 := by omega
  have hm : m = 1 := hR.len.symm
  subst hm
  obtain ⟨b, o, y, rfl, _, hp, hc⟩ := hR.at (k := 0) (by omega)
  injection hp with hp
  subst hp
  have c1 := hc w2 (Same.refl _ _ _)
  rw [Nat.add_zero] at c1
  clear hR hc hmax hle hmn
  go_wp2_with fail
  go_ret
  exact ⟨rfl, HB.out⟩
set_option maxRecDepth 20000 in
set_option maxHeartbeats 4000000 in
theorem pairs_e {w : World} (c : Int) (hc0 : 122 < c) (hc1 : c ≤ 127) :
    Calls Try.prog 5 #[.int .i32 c] w fun e w' => e = .returned (.bool true) ∧ Below w.heap.size w w' := by
  have hx := fun W => orbit_any c W
  have h1 := ((orb128 c.toNat (by omega)).2.2 (by omega) (by omega))
  rw [show (c.toNat : Int) = c by omega] at h1
  rw [h1] at hx
  have h0 : ¬ c < 0 := by omega
  have h2 : ¬ 127 < c := by omega
  clear h1
  have d1 : decide (97 ≤ c) = true := decide_eq_true (by omega)
  have d2 : decide (c ≤ 122) = false := decide_eq_false (by omega)
  have d3 : decide (65 ≤ c) = true := decide_eq_true (by omega)
  have d4 : decide (c ≤ 90) = false := decide_eq_false (by omega)
  have HB := Lib.hid (Below.refl w.heap.size w)
  go_enter Try.func5, Try.ntmps5
  go_wp2_with fail
  refine (head3_any w).mono ?_
  rintro e w1 ⟨rfl, hb0⟩
  replace HB := Lib.hid (Below.on HB.out hb0)
  clear hb0
  go_wp2_with fail
  refine (hx w1).mono ?_
  rintro e w2 ⟨B, m, d, rfl, hR, hb0⟩
  replace HB := Lib.hid (Below.on HB.out hb0)
  clear hb0 hx
  have hmax := hR.max; have hle := hR.le; unfold maxLen at hmax
  have hmn : (m : Int) ≤ 9223372036854775807 := by omega
  have hm : m = 1 := hR.len.symm
  subst hm
  obtain ⟨b, o, y, rfl, _, hp, hc⟩ := hR.at (k := 0) (by omega)
  injection hp with hp
  subst hp
  have c1 := hc w2 (Same.refl _ _ _)
  rw [Nat.add_zero] at c1
  clear hR hc hmax hle hmn
  go_wp2_with fail
  go_ret
  exact ⟨rfl, HB.out⟩
set_option maxRecDepth 20000 in
set_option maxHeartbeats 4000000 in
theorem pairs_small {w : World} (c : Int) (hc0 : 97 ≤ c) (hc1 : c ≤ 122) (n1 : c ≠ 107) (n2 : c ≠ 115) :
    Calls Try.prog 5 #[.int .i32 c] w fun e w' => e = .returned (.bool true) ∧ Below w.heap.size w w' := by
  have hx := fun W => orbit_any c W
  have h1 := ((orb128 c.toNat (by omega)).1 (by omega)).resolve_right (by omega)
  rw [show (c.toNat : Int) = c by omega] at h1
  rw [h1] at hx
  have h0 : ¬ c < 0 := by omega
  have h2 : ¬ 127 < c := by omega
  clear h1
  have d1 : decide (97 ≤ c) = true := decide_eq_true (by omega)
  have d2 : decide (c ≤ 122) = true := decide_eq_true (by omega)
  have d3 : decide (65 ≤ c) = true := decide_eq_true (by omega)
  have d4 : decide (c ≤ 90) = false := decide_eq_false (by omega)
  have hw1 : IntKind.i32.wrap (c - 32) = c - 32 := IntWalk.i32_in _ (by omega)
  have z107 : (c == 107) = false := beq_eq_false_iff_ne.2 (by omega)
  have z75 : (c == 75) = false := beq_eq_false_iff_ne.2 (by omega)
  have z115 : (c == 115) = false := beq_eq_false_iff_ne.2 (by omega)
  have z83 : (c == 83) = false := beq_eq_false_iff_ne.2 (by omega)
  clear n1 n2
  have HB := Lib.hid (Below.refl w.heap.size w)
  go_enter Try.func5, Try.ntmps5
  go_wp2_with fail
  refine (head3_any w).mono ?_
  rintro e w1 ⟨rfl, hb0⟩
  replace HB := Lib.hid (Below.on HB.out hb0)
  clear hb0
  go_wp2_with fail
  refine (hx w1).mono ?_
  rintro e w2 ⟨B, m, d, rfl, hR, hb0⟩
  replace HB := Lib.hid (Below.on HB.out hb0)
  clear hb0 hx
  have hmax := hR.max; have hle := hR.le; unfold maxLen at hmax
  have hmn : (m : Int) ≤ 9223372036854775807 := by omega
  have hm : m = 2 := hR.len.symm
  subst hm
  have HR := Lib.hid hR
  clear hR hmax hle hmn
  go_wp2_with fail
  go_loopg [9, 10] 5 (fun q th i wr => ∃ (j : Nat), q = 5 - j ∧ j ≤ 2 ∧ th = .bool (decide ((c - 32) ∈ ([c - 32, c]).take j)) ∧ i = .int .i64 (j : Int) ∧ w2 = wr)
  case atStart => exact ⟨0, rfl, by omega, by simp, rfl, rfl⟩
  case round =>
    obtain ⟨j, hgk, hj, rfl, rfl, rfl⟩ := hrel
    have HG := Lib.hid hgk
    clear hgk
    by_cases hlt : j < 2
    · obtain ⟨b, o, y, rfl, _, hp, hc⟩ := HR.out.at hlt
      have c1 := hc w2 (Same.refl _ _ _)
      have hi : (j : Int) < 2 := by omega
      have hnx : ((c - 32) ∈ ([c - 32, c]).take (j + 1)) ↔ ((c - 32) ∈ ([c - 32, c]).take j ∨ y = (c - 32)) := by rw [List.take_add_one, hp]; simp [eq_comm]
      have HN := Lib.hid hnx
      have HLT := Lib.hid hlt
      clear hc hp hlt hnx
      by_cases ht : (c - 32) ∈ ([c - 32, c]).take j
      · have HD : Hid (decide ((c - 32) ∈ ([c - 32, c]).take (j + 1)) = true) := Lib.hid (decide_eq_true (HN.out.2 (.inl ht)))
        rw [decide_eq_true ht]
        clear ht HN
        go_wp2_with fail
        go_roundg (5 - (j + 1))
        case measure => have := HG.out; have := HLT.out; omega
        case rel => exact ⟨j + 1, rfl, by have := HLT.out; omega, by rw [HD.out], by go_num, rfl⟩
      · rw [decide_eq_false ht]
        by_cases hy : y = (c - 32)
        · have hyb : (y == (c - 32)) = true := beq_iff_eq.2 hy
          have HD : Hid (decide ((c - 32) ∈ ([c - 32, c]).take (j + 1)) = true) := Lib.hid (decide_eq_true (HN.out.2 (.inr hy)))
          clear ht hy HN
          go_wp2_with fail
          go_roundg (5 - (j + 1))
          case measure => have := HG.out; have := HLT.out; omega
          case rel => exact ⟨j + 1, rfl, by have := HLT.out; omega, by rw [HD.out], by go_num, rfl⟩
        · have hyb : (y == (c - 32)) = false := beq_eq_false_iff_ne.2 hy
          have HD : Hid (decide ((c - 32) ∈ ([c - 32, c]).take (j + 1)) = false) := Lib.hid (decide_eq_false fun h => (HN.out.1 h).elim ht hy)
          clear ht hy HN
          go_wp2_with fail
          go_roundg (5 - (j + 1))
          case measure => have := HG.out; have := HLT.out; omega
          case rel => exact ⟨j + 1, rfl, by have := HLT.out; omega, by rw [HD.out], by go_num, rfl⟩
    · have hjn : j = 2 := by omega
      subst hjn
      have hi : ¬ ((2 : Nat) : Int) < 2 := by omega
      have hd : decide ((c - 32) ∈ ([c - 32, c]).take 2) = true := decide_eq_true (by simp)
      rw [hd]
      clear hlt hd
      go_wp2_with fail
      go_ret
      exact ⟨rfl, HB.out⟩
set_option maxRecDepth 20000 in
set_option maxHeartbeats 4000000 in
theorem pairs_great {w : World} (c : Int) (hc0 : 65 ≤ c) (hc1 : c ≤ 90) (n1 : c ≠ 75) (n2 : c ≠ 83) :
    Calls Try.prog 5 #[.int .i32 c] w fun e w' => e = .returned (.bool true) ∧ Below w.heap.size w w' := by
  have hx := fun W => orbit_any c W
  have h1 := ((orb128 c.toNat (by omega)).2.1 (by omega)).resolve_right (by omega)
  rw [show (c.toNat : Int) = c by omega] at h1
  rw [h1] at hx
  have h0 : ¬ c < 0 := by omega
  have h2 : ¬ 127 < c := by omega
  clear h1
  have d1 : decide (97 ≤ c) = false := decide_eq_false (by omega)
  have d3 : decide (65 ≤ c) = true := decide_eq_true (by omega)
  have d4 : decide (c ≤ 90) = true := decide_eq_true (by omega)
  have hw1 : IntKind.i32.wrap (c - 32) = c - 32 := IntWalk.i32_in _ (by omega)
  have hw2 : IntKind.i32.wrap (c + 32) = c + 32 := IntWalk.i32_in _ (by omega)
  have z107 : (c == 107) = false := beq_eq_false_iff_ne.2 (by omega)
  have z75 : (c == 75) = false := beq_eq_false_iff_ne.2 (by omega)
  have z115 : (c == 115) = false := beq_eq_false_iff_ne.2 (by omega)
  have z83 : (c == 83) = false := beq_eq_false_iff_ne.2 (by omega)
  clear n1 n2
  have HB := Lib.hid (Below.refl w.heap.size w)
  go_enter Try.func5, Try.ntmps5
  go_wp2_with fail
  refine (head3_any w).mono ?_
  rintro e w1 ⟨rfl, hb0⟩
  replace HB := Lib.hid (Below.on HB.out hb0)
  clear hb0
  go_wp2_with fail
  refine (hx w1).mono ?_
  rintro e w2 ⟨B, m, d, rfl, hR, hb0⟩
  replace HB := Lib.hid (Below.on HB.out hb0)
  clear hb0 hx
  have hmax := hR.max; have hle := hR.le; unfold maxLen at hmax
  have hmn : (m : Int) ≤ 9223372036854775807 := by omega
  have hm : m = 2 := hR.len.symm
  subst hm
  have HR := Lib.hid hR
  clear hR hmax hle hmn
  go_wp2_with fail
  go_loopg [9, 10] 5 (fun q th i wr => ∃ (j : Nat), q = 5 - j ∧ j ≤ 2 ∧ th = .bool (decide ((c + 32) ∈ ([c, c + 32]).take j)) ∧ i = .int .i64 (j : Int) ∧ w2 = wr)
  case atStart => exact ⟨0, rfl, by omega, by simp, rfl, rfl⟩
  case round =>
    obtain ⟨j, hgk, hj, rfl, rfl, rfl⟩ := hrel
    have HG := Lib.hid hgk
    clear hgk
    by_cases hlt : j < 2
    · obtain ⟨b, o, y, rfl, _, hp, hc⟩ := HR.out.at hlt
      have c1 := hc w2 (Same.refl _ _ _)
      have hi : (j : Int) < 2 := by omega
      have hnx : ((c + 32) ∈ ([c, c + 32]).take (j + 1)) ↔ ((c + 32) ∈ ([c, c + 32]).take j ∨ y = (c + 32)) := by rw [List.take_add_one, hp]; simp [eq_comm]
      have HN := Lib.hid hnx
      have HLT := Lib.hid hlt
      clear hc hp hlt hnx
      by_cases ht : (c + 32) ∈ ([c, c + 32]).take j
      · have HD : Hid (decide ((c + 32) ∈ ([c, c + 32]).take (j + 1)) = true) := Lib.hid (decide_eq_true (HN.out.2 (.inl ht)))
        rw [decide_eq_true ht]
        clear ht HN
        go_wp2_with fail
        go_roundg (5 - (j + 1))
        case measure => have := HG.out; have := HLT.out; omega
        case rel => exact ⟨j + 1, rfl, by have := HLT.out; omega, by rw [HD.out], by go_num, rfl⟩
      · rw [decide_eq_false ht]
        by_cases hy : y = (c + 32)
        · have hyb : (y == (c + 32)) = true := beq_iff_eq.2 hy
          have HD : Hid (decide ((c + 32) ∈ ([c, c + 32]).take (j + 1)) = true) := Lib.hid (decide_eq_true (HN.out.2 (.inr hy)))
          clear ht hy HN
          go_wp2_with fail
          go_roundg (5 - (j + 1))
          case measure => have := HG.out; have := HLT.out; omega
          case rel => exact ⟨j + 1, rfl, by have := HLT.out; omega, by rw [HD.out], by go_num, rfl⟩
        · have hyb : (y == (c + 32)) = false := beq_eq_false_iff_ne.2 hy
          have HD : Hid (decide ((c + 32) ∈ ([c, c + 32]).take (j + 1)) = false) := Lib.hid (decide_eq_false fun h => (HN.out.1 h).elim ht hy)
          clear ht hy HN
          go_wp2_with fail
          go_roundg (5 - (j + 1))
          case measure => have := HG.out; have := HLT.out; omega
          case rel => exact ⟨j + 1, rfl, by have := HLT.out; omega, by rw [HD.out], by go_num, rfl⟩
    · have hjn : j = 2 := by omega
      subst hjn
      have hi : ¬ ((2 : Nat) : Int) < 2 := by omega
      have hd : decide ((c + 32) ∈ ([c, c + 32]).take 2) = true := decide_eq_true (by simp)
      rw [hd]
      clear hlt hd
      go_wp2_with fail
      go_ret
      exact ⟨rfl, HB.out⟩
set_option maxRecDepth 20000 in
set_option maxHeartbeats 4000000 in
theorem pairs_k107 {w : World} (c : Int) (hk : c = 107) :
    Calls Try.prog 5 #[.int .i32 c] w fun e w' => e = .returned (.bool true) ∧ Below w.heap.size w w' := by
  have hx := fun W => orbit_any c W
  subst hk
  rw [show orbL 107 = [75, 107, 8490] by decide] at hx
  have HB := Lib.hid (Below.refl w.heap.size w)
  go_enter Try.func5, Try.ntmps5
  go_wp2_with fail
  refine (head3_any w).mono ?_
  rintro e w1 ⟨rfl, hb0⟩
  replace HB := Lib.hid (Below.on HB.out hb0)
  clear hb0
  go_wp2_with fail
  refine (hx w1).mono ?_
  rintro e w2 ⟨B, m, d, rfl, hR, hb0⟩
  replace HB := Lib.hid (Below.on HB.out hb0)
  clear hb0 hx
  have hmax := hR.max; have hle := hR.le; unfold maxLen at hmax
  have hmn : (m : Int) ≤ 9223372036854775807 := by omega
  have hm : m = 3 := hR.len.symm
  subst hm
  have HR := Lib.hid hR
  clear hR hmax hle hmn
  go_wp2_with fail
  go_loopg [9, 10] 5 (fun q th i wr => ∃ (j : Nat), q = 5 - j ∧ j ≤ 3 ∧ th = .bool (decide ((75 : Int) ∈ ([(75 : Int), 107, 8490]).take j)) ∧ i = .int .i64 (j : Int) ∧ w2 = wr)
  case atStart => exact ⟨0, rfl, by omega, by simp, rfl, rfl⟩
  case round =>
    obtain ⟨j, hgk, hj, rfl, rfl, rfl⟩ := hrel
    have HG := Lib.hid hgk
    clear hgk
    by_cases hlt : j < 3
    · obtain ⟨b, o, y, rfl, _, hp, hc⟩ := HR.out.at hlt
      have c1 := hc w2 (Same.refl _ _ _)
      have hi : (j : Int) < 3 := by omega
      have hnx : ((75 : Int) ∈ ([(75 : Int), 107, 8490]).take (j + 1)) ↔ ((75 : Int) ∈ ([(75 : Int), 107, 8490]).take j ∨ y = (75 : Int)) := by rw [List.take_add_one, hp]; simp [eq_comm]
      have HN := Lib.hid hnx
      have HLT := Lib.hid hlt
      clear hc hp hlt hnx
      by_cases ht : (75 : Int) ∈ ([(75 : Int), 107, 8490]).take j
      · have HD : Hid (decide ((75 : Int) ∈ ([(75 : Int), 107, 8490]).take (j + 1)) = true) := Lib.hid (decide_eq_true (HN.out.2 (.inl ht)))
        rw [decide_eq_true ht]
        clear ht HN
        go_wp2_with fail
        go_roundg (5 - (j + 1))
        case measure => have := HG.out; have := HLT.out; omega
        case rel => exact ⟨j + 1, rfl, by have := HLT.out; omega, by rw [HD.out], by go_num, rfl⟩
      · rw [decide_eq_false ht]
        by_cases hy : y = (75 : Int)
        · have hyb : (y == (75 : Int)) = true := beq_iff_eq.2 hy
          have HD : Hid (decide ((75 : Int) ∈ ([(75 : Int), 107, 8490]).take (j + 1)) = true) := Lib.hid (decide_eq_true (HN.out.2 (.inr hy)))
          clear ht hy HN
          go_wp2_with fail
          go_roundg (5 - (j + 1))
          case measure => have := HG.out; have := HLT.out; omega
          case rel => exact ⟨j + 1, rfl, by have := HLT.out; omega, by rw [HD.out], by go_num, rfl⟩
        · have hyb : (y == (75 : Int)) = false := beq_eq_false_iff_ne.2 hy
          have HD : Hid (decide ((75 : Int) ∈ ([(75 : Int), 107, 8490]).take (j + 1)) = false) := Lib.hid (decide_eq_false fun h => (HN.out.1 h).elim ht hy)
          clear ht hy HN
          go_wp2_with fail
          go_roundg (5 - (j + 1))
          case measure => have := HG.out; have := HLT.out; omega
          case rel => exact ⟨j + 1, rfl, by have := HLT.out; omega, by rw [HD.out], by go_num, rfl⟩
    · have hjn : j = 3 := by omega
      subst hjn
      have hi : ¬ ((3 : Nat) : Int) < 3 := by omega
      have hd : decide ((75 : Int) ∈ ([(75 : Int), 107, 8490]).take 3) = true := decide_eq_true (by simp)
      rw [hd]
      clear hlt hd
      go_wp2_with fail
      go_ret
      exact ⟨rfl, HB.out⟩
set_option maxRecDepth 20000 in
set_option maxHeartbeats 4000000 in
theorem pairs_k115 {w : World} (c : Int) (hk : c = 115) :
    Calls Try.prog 5 #[.int .i32 c] w fun e w' => e = .returned (.bool true) ∧ Below w.heap.size w w' := by
  have hx := fun W => orbit_any c W
  subst hk
  rw [show orbL 115 = [83, 115, 383] by decide] at hx
  have HB := Lib.hid (Below.refl w.heap.size w)
  go_enter Try.func5, Try.ntmps5
  go_wp2_with fail
  refine (head3_any w).mono ?_
  rintro e w1 ⟨rfl, hb0⟩
  replace HB := Lib.hid (Below.on HB.out hb0)
  clear hb0
  go_wp2_with fail
  refine (hx w1).mono ?_
  rintro e w2 ⟨B, m, d, rfl, hR, hb0⟩
  replace HB := Lib.hid (Below.on HB.out hb0)
  clear hb0 hx
  have hmax := hR.max; have hle := hR.le; unfold maxLen at hmax
  have hmn : (m : Int) ≤ 9223372036854775807 := by omega
  have hm : m = 3 := hR.len.symm
  subst hm
  have HR := Lib.hid hR
  clear hR hmax hle hmn
  go_wp2_with fail
  go_loopg [9, 10] 5 (fun q th i wr => ∃ (j : Nat), q = 5 - j ∧ j ≤ 3 ∧ th = .bool (decide ((83 : Int) ∈ ([(83 : Int), 115, 383]).take j)) ∧ i = .int .i64 (j : Int) ∧ w2 = wr)
  case atStart => exact ⟨0, rfl, by omega, by simp, rfl, rfl⟩
  case round =>
    obtain ⟨j, hgk, hj, rfl, rfl, rfl⟩ := hrel
    have HG := Lib.hid hgk
    clear hgk
    by_cases hlt : j < 3
    · obtain ⟨b, o, y, rfl, _, hp, hc⟩ := HR.out.at hlt
      have c1 := hc w2 (Same.refl _ _ _)
      have hi : (j : Int) < 3 := by omega
      have hnx : ((83 : Int) ∈ ([(83 : Int), 115, 383]).take (j + 1)) ↔ ((83 : Int) ∈ ([(83 : Int), 115, 383]).take j ∨ y = (83 : Int)) := by rw [List.take_add_one, hp]; simp [eq_comm]
      have HN := Lib.hid hnx
      have HLT := Lib.hid hlt
      clear hc hp hlt hnx
      by_cases ht : (83 : Int) ∈ ([(83 : Int), 115, 383]).take j
      · have HD : Hid (decide ((83 : Int) ∈ ([(83 : Int), 115, 383]).take (j + 1)) = true) := Lib.hid (decide_eq_true (HN.out.2 (.inl ht)))
        rw [decide_eq_true ht]
        clear ht HN
        go_wp2_with fail
        go_roundg (5 - (j + 1))
        case measure => have := HG.out; have := HLT.out; omega
        case rel => exact ⟨j + 1, rfl, by have := HLT.out; omega, by rw [HD.out], by go_num, rfl⟩
      · rw [decide_eq_false ht]
        by_cases hy : y = (83 : Int)
        · have hyb : (y == (83 : Int)) = true := beq_iff_eq.2 hy
          have HD : Hid (decide ((83 : Int) ∈ ([(83 : Int), 115, 383]).take (j + 1)) = true) := Lib.hid (decide_eq_true (HN.out.2 (.inr hy)))
          clear ht hy HN
          go_wp2_with fail
          go_roundg (5 - (j + 1))
          case measure => have := HG.out; have := HLT.out; omega
          case rel => exact ⟨j + 1, rfl, by have := HLT.out; omega, by rw [HD.out], by go_num, rfl⟩
        · have hyb : (y == (83 : Int)) = false := beq_eq_false_iff_ne.2 hy
          have HD : Hid (decide ((83 : Int) ∈ ([(83 : Int), 115, 383]).take (j + 1)) = false) := Lib.hid (decide_eq_false fun h => (HN.out.1 h).elim ht hy)
          clear ht hy HN
          go_wp2_with fail
          go_roundg (5 - (j + 1))
          case measure => have := HG.out; have := HLT.out; omega
          case rel => exact ⟨j + 1, rfl, by have := HLT.out; omega, by rw [HD.out], by go_num, rfl⟩
    · have hjn : j = 3 := by omega
      subst hjn
      have hi : ¬ ((3 : Nat) : Int) < 3 := by omega
      have hd : decide ((83 : Int) ∈ ([(83 : Int), 115, 383]).take 3) = true := decide_eq_true (by simp)
      rw [hd]
      clear hlt hd
      go_wp2_with fail
      go_ret
      exact ⟨rfl, HB.out⟩
set_option maxRecDepth 20000 in
set_option maxHeartbeats 4000000 in
theorem pairs_k75 {w : World} (c : Int) (hk : c = 75) :
    Calls Try.prog 5 #[.int .i32 c] w fun e w' => e = .returned (.bool true) ∧ Below w.heap.size w w' := by
  have hx := fun W => orbit_any c W
  subst hk
  rw [show orbL 75 = [75, 107, 8490] by decide] at hx
  have HB := Lib.hid (Below.refl w.heap.size w)
  go_enter Try.func5, Try.ntmps5
  go_wp2_with fail
  refine (head3_any w).mono ?_
  rintro e w1 ⟨rfl, hb0⟩
  replace HB := Lib.hid (Below.on HB.out hb0)
  clear hb0
  go_wp2_with fail
  refine (hx w1).mono ?_
  rintro e w2 ⟨B, m, d, rfl, hR, hb0⟩
  replace HB := Lib.hid (Below.on HB.out hb0)
  clear hb0 hx
  have hmax := hR.max; have hle := hR.le; unfold maxLen at hmax
  have hmn : (m : Int) ≤ 9223372036854775807 := by omega
  have hm : m = 3 := hR.len.symm
  subst hm
  have HR := Lib.hid hR
  clear hR hmax hle hmn
  go_wp2_with fail
  go_loopg [9, 10] 5 (fun q th i wr => ∃ (j : Nat), q = 5 - j ∧ j ≤ 3 ∧ th = .bool (decide ((107 : Int) ∈ ([(75 : Int), 107, 8490]).take j)) ∧ i = .int .i64 (j : Int) ∧ w2 = wr)
  case atStart => exact ⟨0, rfl, by omega, by simp, rfl, rfl⟩
  case round =>
    obtain ⟨j, hgk, hj, rfl, rfl, rfl⟩ := hrel
    have HG := Lib.hid hgk
    clear hgk
    by_cases hlt : j < 3
    · obtain ⟨b, o, y, rfl, _, hp, hc⟩ := HR.out.at hlt
      have c1 := hc w2 (Same.refl _ _ _)
      have hi : (j : Int) < 3 := by omega
      have hnx : ((107 : Int) ∈ ([(75 : Int), 107, 8490]).take (j + 1)) ↔ ((107 : Int) ∈ ([(75 : Int), 107, 8490]).take j ∨ y = (107 : Int)) := by rw [List.take_add_one, hp]; simp [eq_comm]
      have HN := Lib.hid hnx
      have HLT := Lib.hid hlt
      clear hc hp hlt hnx
      by_cases ht : (107 : Int) ∈ ([(75 : Int), 107, 8490]).take j
      · have HD : Hid (decide ((107 : Int) ∈ ([(75 : Int), 107, 8490]).take (j + 1)) = true) := Lib.hid (decide_eq_true (HN.out.2 (.inl ht)))
        rw [decide_eq_true ht]
        clear ht HN
        go_wp2_with fail
        go_roundg (5 - (j + 1))
        case measure => have := HG.out; have := HLT.out; omega
        case rel => exact ⟨j + 1, rfl, by have := HLT.out; omega, by rw [HD.out], by go_num, rfl⟩
      · rw [decide_eq_false ht]
        by_cases hy : y = (107 : Int)
        · have hyb : (y == (107 : Int)) = true := beq_iff_eq.2 hy
          have HD : Hid (decide ((107 : Int) ∈ ([(75 : Int), 107, 8490]).take (j + 1)) = true) := Lib.hid (decide_eq_true (HN.out.2 (.inr hy)))
          clear ht hy HN
          go_wp2_with fail
          go_roundg (5 - (j + 1))
          case measure => have := HG.out; have := HLT.out; omega
          case rel => exact ⟨j + 1, rfl, by have := HLT.out; omega, by rw [HD.out], by go_num, rfl⟩
        · have hyb : (y == (107 : Int)) = false := beq_eq_false_iff_ne.2 hy
          have HD : Hid (decide ((107 : Int) ∈ ([(75 : Int), 107, 8490]).take (j + 1)) = false) := Lib.hid (decide_eq_false fun h => (HN.out.1 h).elim ht hy)
          clear ht hy HN
          go_wp2_with fail
          go_roundg (5 - (j + 1))
          case measure => have := HG.out; have := HLT.out; omega
          case rel => exact ⟨j + 1, rfl, by have := HLT.out; omega, by rw [HD.out], by go_num, rfl⟩
    · have hjn : j = 3 := by omega
      subst hjn
      have hi : ¬ ((3 : Nat) : Int) < 3 := by omega
      have hd : decide ((107 : Int) ∈ ([(75 : Int), 107, 8490]).take 3) = true := decide_eq_true (by simp)
      rw [hd]
      clear hlt hd
      go_wp2_with fail
      go_ret
      exact ⟨rfl, HB.out⟩
set_option maxRecDepth 20000 in
set_option maxHeartbeats 4000000 in
theorem pairs_k83 {w : World} (c : Int) (hk : c = 83) :
    Calls Try.prog 5 #[.int .i32 c] w fun e w' => e = .returned (.bool true) ∧ Below w.heap.size w w' := by
  have hx := fun W => orbit_any c W
  subst hk
  rw [show orbL 83 = [83, 115, 383] by decide] at hx
  have HB := Lib.hid (Below.refl w.heap.size w)
  go_enter Try.func5, Try.ntmps5
  go_wp2_with fail
  refine (head3_any w).mono ?_
  rintro e w1 ⟨rfl, hb0⟩
  replace HB := Lib.hid (Below.on HB.out hb0)
  clear hb0
  go_wp2_with fail
  refine (hx w1).mono ?_
  rintro e w2 ⟨B, m, d, rfl, hR, hb0⟩
  replace HB := Lib.hid (Below.on HB.out hb0)
  clear hb0 hx
  have hmax := hR.max; have hle := hR.le; unfold maxLen at hmax
  have hmn : (m : Int) ≤ 9223372036854775807 := by omega
  have hm : m = 3 := hR.len.symm
  subst hm
  have HR := Lib.hid hR
  clear hR hmax hle hmn
  go_wp2_with fail
  go_loopg [9, 10] 5 (fun q th i wr => ∃ (j : Nat), q = 5 - j ∧ j ≤ 3 ∧ th = .bool (decide ((115 : Int) ∈ ([(83 : Int), 115, 383]).take j)) ∧ i = .int .i64 (j : Int) ∧ w2 = wr)
  case atStart => exact ⟨0, rfl, by omega, by simp, rfl, rfl⟩
  case round =>
    obtain ⟨j, hgk, hj, rfl, rfl, rfl⟩ := hrel
    have HG := Lib.hid hgk
    clear hgk
    by_cases hlt : j < 3
    · obtain ⟨b, o, y, rfl, _, hp, hc⟩ := HR.out.at hlt
      have c1 := hc w2 (Same.refl _ _ _)
      have hi : (j : Int) < 3 := by omega
      have hnx : ((115 : Int) ∈ ([(83 : Int), 115, 383]).take (j + 1)) ↔ ((115 : Int) ∈ ([(83 : Int), 115, 383]).take j ∨ y = (115 : Int)) := by rw [List.take_add_one, hp]; simp [eq_comm]
      have HN := Lib.hid hnx
      have HLT := Lib.hid hlt
      clear hc hp hlt hnx
      by_cases ht : (115 : Int) ∈ ([(83 : Int), 115, 383]).take j
      · have HD : Hid (decide ((115 : Int) ∈ ([(83 : Int), 115, 383]).take (j + 1)) = true) := Lib.hid (decide_eq_true (HN.out.2 (.inl ht)))
        rw [decide_eq_true ht]
        clear ht HN
        go_wp2_with fail
        go_roundg (5 - (j + 1))
        case measure => have := HG.out; have := HLT.out; omega
        case rel => exact ⟨j + 1, rfl, by have := HLT.out; omega, by rw [HD.out], by go_num, rfl⟩
      · rw [decide_eq_false ht]
        by_cases hy : y = (115 : Int)
        · have hyb : (y == (115 : Int)) = true := beq_iff_eq.2 hy
          have HD : Hid (decide ((115 : Int) ∈ ([(83 : Int), 115, 383]).take (j + 1)) = true) := Lib.hid (decide_eq_true (HN.out.2 (.inr hy)))
          clear ht hy HN
          go_wp2_with fail
          go_roundg (5 - (j + 1))
          case measure => have := HG.out; have := HLT.out; omega
          case rel => exact ⟨j + 1, rfl, by have := HLT.out; omega, by rw [HD.out], by go_num, rfl⟩
        · have hyb : (y == (115 : Int)) = false := beq_eq_false_iff_ne.2 hy
          have HD : Hid (decide ((115 : Int) ∈ ([(83 : Int), 115, 383]).take (j + 1)) = false) := Lib.hid (decide_eq_false fun h => (HN.out.1 h).elim ht hy)
          clear ht hy HN
          go_wp2_with fail
          go_roundg (5 - (j + 1))
          case measure => have := HG.out; have := HLT.out; omega
          case rel => exact ⟨j + 1, rfl, by have := HLT.out; omega, by rw [HD.out], by go_num, rfl⟩
    · have hjn : j = 3 := by omega
      subst hjn
      have hi : ¬ ((3 : Nat) : Int) < 3 := by omega
      have hd : decide ((115 : Int) ∈ ([(83 : Int), 115, 383]).take 3) = true := decide_eq_true (by simp)
      rw [hd]
      clear hlt hd
      go_wp2_with fail
      go_ret
      exact ⟨rfl, HB.out⟩
theorem tablesPairs_walk {w : World} (c : Int) :
    Calls Try.prog 5 #[.int .i32 c] w fun e w' => e = .returned (.bool true) ∧ Below w.heap.size w w' := by
  by_cases a1 : c < 0
  · exact pairs_neg c a1
  by_cases a2 : 127 < c
  · exact pairs_big c a2
  by_cases a3 : c < 65
  · exact pairs_a c (by omega) a3
  by_cases a4 : c ≤ 90
  · by_cases a5 : c = 75
    · exact pairs_k75 c a5
    by_cases a6 : c = 83
    · exact pairs_k83 c a6
    exact pairs_great c (by omega) a4 a5 a6
  by_cases a7 : c < 97
  · exact pairs_b c (by omega) a7
  by_cases a8 : c ≤ 122
  · by_cases a5 : c = 107
    · exact pairs_k107 c a5
    by_cases a6 : c = 115
    · exact pairs_k115 c a6
    exact pairs_small c (by omega) a8 a5 a6
  exact pairs_e c (by omega) (by omega)
end Go.Proofs.Ytoglnankopdohaa
