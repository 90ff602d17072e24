/- InputsLines: the walk. -/
import Derived.Test.YtkiljhlbeffnfaaDoorAtBits
import Derived.IntWalk
namespace Go.Proofs.YtkiljhlbeffnfaaDoor
open Go.RowKit

/-- The two runes at a place, told apart. -/
theorem ends_apart (i b : Int) (e : Int) (h : i = e → b = -1) (h' : i ≠ e → 0 ≤ b) : ((i == e) = true ∧ b = -1) ∨ ((i == e) = false ∧ b = 10) ∨ ((i == e) = false ∧ (b == -1) = false ∧ (b == 10) = false) := by
  by_cases h0 : i = e
  · exact .inl ⟨by simp [h0], h h0⟩
  · have := h' h0
    by_cases h1 : b = 10
    · exact .inr (.inl ⟨by simp [h0], h1⟩)
    · refine .inr (.inr ⟨by simp [h0], ?_, by simp [h1]⟩)
      rw [beq_eq_false_iff_ne]; omega

set_option maxRecDepth 20000 in
set_option maxHeartbeats 8000000 in
theorem lines_walk {w : World} {A : Option Addr} {n c : Nat} {s : ByteArray} (k : Int) (hT : Lib.Utf8Tabs 0 1 w) (hA : BytesIn w A n c s) :
    Calls Tryd.prog 7 #[.int .i64 k, .slice A n c] w fun e w' => e = .returned (.bool true) ∧ Below w.heap.size w w' := by
  have cH := head_any hT
  by_cases hok : (1 ≤ k ∧ k ≤ 3) ∧ n ≤ 65536
  · go_enter Tryd.func7, Tryd.ntmps7
    go_wp2_with fail
    refine cH.mono ?_
    rintro e w1 ⟨rfl, hb1⟩
    have hA1 := hA.below hb1
    have hT1 := tabs_below hT hb1
    have cN := hA1.new hT1 k hok.1 hok.2
    have hsn := hA.size
    have HB1 := Lib.hid hb1
    clear cH hT hA hb1
    go_wp2_with fail
    refine cN.mono ?_
    rintro e w2 ⟨g, m, hm, rfl, hin, hb2⟩
    have hbe : Below w.heap.size w w2 := HB1.out.trans (hb2.mono HB1.out.size)
    have hms : m ≤ 65536 := by have := hm.le; omega
    have hpr := pre_nonneg s m
    have hpl := pre_length s m
    have HB := Lib.hid hbe
    clear cN hT1 hA1 hm hb2 hbe HB1 hsn
    have hru : ∀ i : Int, 0 ≤ i → i < m → 0 ≤ runeAt (full (pre s m) s.size) i := fun i h0 h1 => runeAt_in _ _ i h0 (by omega) hpr
    have hro : ∀ i : Int, i < 0 ∨ (m : Int) ≤ i → runeAt (full (pre s m) s.size) i = -1 := fun i h => runeAt_out _ _ i (by omega)
    have hfl := fullLen s m
    generalize full (pre s m) s.size = l at hin hru hro hfl
    have e1 : (l.length : Int) - 1 = m := by omega
    have cL : ∀ W, Hid (∃ d, W = w2.drewN d) → Calls Tryd.prog 15 #[.pointer (some ⟨g, 0, none⟩)] W fun e w' => e = .returned (.int .i64 (m : Int)) ∧ W = w' := by
      intro W h
      obtain ⟨d, rfl⟩ := h.out
      rw [← e1]
      exact len_any (hin.drewN d).1
    have cR : ∀ W, Hid (∃ d, W = w2.drewN d) → ∀ i, Calls Tryd.prog 17 #[.pointer (some ⟨g, 0, none⟩), .int .i64 i] W fun e w' => e = .returned (.int .i32 (runeAt l i)) ∧ W = w' := by
      intro W h i
      obtain ⟨d, rfl⟩ := h.out
      exact rune_any (hin.drewN d).1 i
    have cA : ∀ W, Hid (∃ d, W = w2.drewN d) → ∀ (i : Int), 0 ≤ i → i ≤ m → Calls Tryd.prog 23 #[.pointer (some ⟨g, 0, none⟩), .int .i64 i] W fun e w' => e = .returned (.int .i64 (atOf (runeAt l (i - 1)) (runeAt l i))) ∧ Hid (∃ d, w' = w2.drewN d) := by
      intro W h i h0 h1
      obtain ⟨d, rfl⟩ := h.out
      have := at_any (hin.drewN d).1 i (by omega)
      unfold atAt at this
      rw [if_neg (by omega)] at this
      exact this.mono fun e w' ⟨h1, n, h2⟩ => ⟨h1, Lib.hid ⟨d + n, by rw [h2, World.drewN_drewN]⟩⟩
    clear hin hfl hpl hpr e1 hok
    have HRU := Lib.hid hru
    have HRO := Lib.hid hro
    clear hru hro
    go_wp2_with fail
    go_loopg [8] (m + 2) (fun q i wr => ∃ (j : Nat), q = m + 2 - j ∧ j ≤ m + 1 ∧ i = .int .i64 (j : Int) ∧ Hid (∃ d, wr = w2.drewN d))
    case atStart => exact ⟨0, rfl, by omega, by go_num, Lib.hid ⟨0, rfl⟩⟩
    case round =>
      obtain ⟨j, hgk, hj, rfl, HWR⟩ := hrel
      have HG := Lib.hid hgk
      clear hgk
      have cLd := cL wr HWR
      by_cases hlt : j ≤ m
      · have hb := ends_apart (j : Int) (runeAt l ((j : Int) - 1)) 0 (fun h => HRO.out _ (by omega)) (fun h => HRU.out _ (by omega) (by omega))
        have hc := ends_apart (j : Int) (runeAt l (j : Int)) (m : Int) (fun h => HRO.out _ (by omega)) (fun h => HRU.out _ (by omega) (by omega))
        have cA' := cA wr HWR (j : Int) (by omega) (by omega)
        have cB := fun W h => cR W h ((j : Int) - 1)
        have cC := fun W h => cR W h (j : Int)
        clear cA cR HRU HRO
        generalize runeAt l ((j : Int) - 1) = b at cA' cB hb
        generalize runeAt l (j : Int) = c0 at cA' cC hc
        obtain ⟨z, hz⟩ := at_bits b c0
        generalize atOf b c0 = a at cA' hz
        have HZ := Lib.hid hz
        have HBB := Lib.hid hb
        have HCC := Lib.hid hc
        clear hz hb hc
        go_wp2_with fail
        refine cLd.mono ?_
        rintro e w' ⟨rfl, rfl⟩
        clear cLd
        go_wp2_with fail
        refine cA'.mono ?_
        rintro e w5 ⟨rfl, HW5⟩
        have cL5 := cL w5 HW5
        have cB5 := cB w5 HW5
        have cC5 := cC w5 HW5
        clear cA' cL cB cC
        have hw1 : IntKind.i64.wrap ((j : Int) - 1) = (j : Int) - 1 := IntWalk.i64_in _ (by omega)
        have hw2 : IntKind.i64.wrap ((j : Int) + 1) = (j : Int) + 1 := IntWalk.i64_in _ (by omega)
        have HJ : Hid (j ≤ m ∧ gk = m + 2 - j) := Lib.hid ⟨hlt, HG.out⟩
        clear HB HG hj hlt hms HWR
        have hb : (((j : Int) == 0) = true ∧ (b == -1) = true) ∨ (((j : Int) == 0) = false ∧ (b == -1) = false) := by
          rcases HBB.out with ⟨h1, rfl⟩ | ⟨h1, rfl⟩ | ⟨h1, h2, _⟩
          · exact .inl ⟨h1, rfl⟩
          · exact .inr ⟨h1, rfl⟩
          · exact .inr ⟨h1, h2⟩
        have hc : (((j : Int) == (m : Int)) = true ∧ (c0 == -1) = true) ∨ (((j : Int) == (m : Int)) = false ∧ (c0 == -1) = false) := by
          rcases HCC.out with ⟨h1, rfl⟩ | ⟨h1, rfl⟩ | ⟨h1, h2, _⟩
          · exact .inl ⟨h1, rfl⟩
          · exact .inr ⟨h1, rfl⟩
          · exact .inr ⟨h1, h2⟩
        clear HBB HCC
        obtain ⟨z1, z2, z3, z4, z5, z6⟩ := HZ.out
        clear HZ
        rcases hb with ⟨b1, b2⟩ | ⟨b1, b2⟩ <;> rcases hc with ⟨c1, c2⟩ | ⟨c1, c2⟩
        · rw [b2] at z1 z3
          rw [c2] at z2 z4
          simp only [Bool.true_or, Bool.false_or] at z3 z4
          clear b2 c2
          go_wp2_with fail
          refine cL5.mono ?_
          rintro e w' ⟨rfl, rfl⟩
          go_wp2_with fail
          refine cL5.mono ?_
          rintro e w' ⟨rfl, rfl⟩
          go_wp2_with fail
          go_roundg (m + 2 - (j + 1))
          case measure => have := HJ.out; omega
          case rel => exact ⟨j + 1, rfl, by have := HJ.out; omega, by go_num, HW5⟩
        · rw [b2] at z1 z3
          rw [c2] at z2 z4
          simp only [Bool.true_or, Bool.false_or] at z3 z4
          clear b2 c2
          go_wp2_with fail
          refine cL5.mono ?_
          rintro e w' ⟨rfl, rfl⟩
          go_wp2_with fail
          refine cL5.mono ?_
          rintro e w' ⟨rfl, rfl⟩
          go_wp2_with fail
          refine cC5.mono ?_
          rintro e w' ⟨rfl, rfl⟩
          go_wp2_with fail
          go_roundg (m + 2 - (j + 1))
          case measure => have := HJ.out; omega
          case rel => exact ⟨j + 1, rfl, by have := HJ.out; omega, by go_num, HW5⟩
        · rw [b2] at z1 z3
          rw [c2] at z2 z4
          simp only [Bool.true_or, Bool.false_or] at z3 z4
          clear b2 c2
          go_wp2_with fail
          refine cL5.mono ?_
          rintro e w' ⟨rfl, rfl⟩
          go_wp2_with fail
          refine cB5.mono ?_
          rintro e w' ⟨rfl, rfl⟩
          go_wp2_with fail
          refine cL5.mono ?_
          rintro e w' ⟨rfl, rfl⟩
          go_wp2_with fail
          go_roundg (m + 2 - (j + 1))
          case measure => have := HJ.out; omega
          case rel => exact ⟨j + 1, rfl, by have := HJ.out; omega, by go_num, HW5⟩
        · rw [b2] at z1 z3
          rw [c2] at z2 z4
          simp only [Bool.true_or, Bool.false_or] at z3 z4
          clear b2 c2
          go_wp2_with fail
          refine cL5.mono ?_
          rintro e w' ⟨rfl, rfl⟩
          go_wp2_with fail
          refine cB5.mono ?_
          rintro e w' ⟨rfl, rfl⟩
          go_wp2_with fail
          refine cL5.mono ?_
          rintro e w' ⟨rfl, rfl⟩
          go_wp2_with fail
          refine cC5.mono ?_
          rintro e w' ⟨rfl, rfl⟩
          go_wp2_with fail
          go_roundg (m + 2 - (j + 1))
          case measure => have := HJ.out; omega
          case rel => exact ⟨j + 1, rfl, by have := HJ.out; omega, by go_num, HW5⟩
      · go_wp2_with fail
        refine cLd.mono ?_
        rintro e w' ⟨rfl, rfl⟩
        go_wp2_with fail
        go_ret
        obtain ⟨d, rfl⟩ := HWR.out
        exact ⟨rfl, HB.out.drewN⟩
  · go_enter Tryd.func7, Tryd.ntmps7
    go_wp2_with fail
    refine cH.mono ?_
    rintro e w1 ⟨rfl, hb1⟩
    have hm : n ≤ maxLen := Nat.le_trans hA.le hA.max
    have cN : Calls Tryd.prog 25 #[.int .i64 k, .slice A n c] w1 fun e w' => ∃ x : Int, (x = 1 ∨ x = 2) ∧ e = .returned (.tuple #[.pointer none, .int .i64 x]) ∧ w1 = w' := by
      by_cases hk : k < 1 ∨ 3 < k
      · exact (new_arg k A n c w1 hk).mono fun e w' ⟨h1, h2⟩ => ⟨1, .inl rfl, h1, by rw [h2]⟩
      · exact (new_many k A n c w1 (by omega) (by omega) hm).mono fun e w' ⟨h1, h2⟩ => ⟨2, .inr rfl, h1, by rw [h2]⟩
    clear cH hT hA
    go_wp2_with fail
    refine cN.mono ?_
    rintro e w' ⟨x, hx, rfl, rfl⟩
    rcases hx with rfl | rfl
    all_goals
      go_wp2_with fail
      go_ret
      exact ⟨rfl, hb1⟩
end Go.Proofs.YtkiljhlbeffnfaaDoor
