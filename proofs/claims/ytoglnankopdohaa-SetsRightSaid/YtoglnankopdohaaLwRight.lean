/- SetsRight: the walk. -/
import Derived.Test.YtoglnankopdohaaRefR
namespace Go.Proofs.Ytoglnankopdohaa
open Go.RowKit

theorem right_same {l s : List Rg} {b : Bool} (h : SetOf (mem l) s) (hb : b = true ↔ Canon l) : b = decide (l = s) := by
  rw [Bool.eq_iff_iff, hb, decide_eq_true_iff]
  constructor
  · intro hc
    exact (SetOf.self hc).unique h (fun _ _ _ => Iff.rfl)
  · intro he
    rw [he]
    exact h.canon

set_option maxRecDepth 20000 in
set_option maxHeartbeats 4000000 in
theorem setsRight_walk {w : World} {Aa : Option Addr} {na ca : Nat} {la : List Rg} (ha : RgIn w Aa na ca la)   :
    Calls Try.prog 6 #[.slice Aa na ca] w fun e w' => e = .returned (.bool true) ∧ Below w.heap.size w w' := by
  have Ma := Mm.raw la
  have xa := ha.max
  have ya := ha.le
  have za := ha.len
  have HB := Lib.hid (Below.refl w.heap.size w)
  have Ha := Lib.hid ha
  clear ha
  by_cases hla : 2000 < na
  · skip
    go_enter Try.func6, Try.ntmps6
    go_wp2_with fail
    refine (head_any w).mono ?_
    rintro e w1 ⟨rfl, hb0⟩
    have hb := hb0
    replace HB := Lib.hid (Below.on HB.out hb)
    replace Ha := Lib.hid (Ha.out.below hb)
    clear hb
    clear hb0
    have ql := long_any w1 Aa na ca (Nat.le_trans ya xa)
    rw [decide_eq_true hla] at ql
    go_wp2_with fail
    refine ql.mono ?_
    rintro e wl ⟨rfl, hwl⟩
    rw [hwl]
    clear ql hwl wl
    go_wp2_with fail
    go_ret
    exact ⟨rfl, HB.out⟩
  go_enter Try.func6, Try.ntmps6
  go_wp2_with fail
  refine (head_any w).mono ?_
  rintro e w1 ⟨rfl, hb0⟩
  have hb := hb0
  replace HB := Lib.hid (Below.on HB.out hb)
  replace Ha := Lib.hid (Ha.out.below hb)
  clear hb
  clear hb0
  have ql := long_any w1 Aa na ca (Nat.le_trans ya xa)
  rw [decide_eq_false hla] at ql
  go_wp2_with fail
  refine ql.mono ?_
  rintro e wl ⟨rfl, hwl⟩
  rw [hwl]
  clear ql hwl wl
  have ka : na ≤ 2000 := by omega
  have hq := right_any Ha.out (by omega)
  go_wp2_with fail
  refine hq.mono ?_
  rintro e w2 ⟨⟨s1, hs1, rfl⟩, hb⟩
  clear hq
  replace HB := Lib.hid (Below.on HB.out hb)
  replace Ha := Lib.hid (Ha.out.below hb)
  clear hb
  have hq := refRight_any Ha.out
  go_wp2_with fail
  refine hq.mono ?_
  rintro e w3 ⟨⟨b, rfl, hb0⟩, hb⟩
  clear hq
  replace HB := Lib.hid (Below.on HB.out hb)
  rw [right_same hs1 hb0]
  clear hs1 hb0 hb
  generalize decide (la = s1) = r
  cases r
  all_goals go_wp2_with fail
  all_goals go_ret
  all_goals exact ⟨rfl, HB.out⟩
end Go.Proofs.Ytoglnankopdohaa
