/- SetsNot: the walk. -/
import Derived.Test.YtoglnankopdohaaRefS
namespace Go.Proofs.Ytoglnankopdohaa
open Go.RowKit

set_option maxRecDepth 20000 in
set_option maxHeartbeats 4000000 in
theorem setsNot_walk {w : World} {Aa : Option Addr} {na ca : Nat} {la : List Rg} (ha : RgIn w Aa na ca la)   :
    Calls Try.prog 10 #[.slice Aa na ca] w fun e w' => e = .returned (.bool true) ∧ Below w.heap.size w w' := by
  have Ma := Mm.raw la
  have xa := ha.max
  have ya := ha.le
  have za := ha.len
  have HB := Lib.hid (Below.refl w.heap.size w)
  have Ha := Lib.hid ha
  clear ha
  by_cases hla : 2000 < na
  · skip
    go_enter Try.func10, Try.ntmps10
    go_wp2_with fail
    refine (head_any w).mono ?_
    rintro e w1 ⟨rfl, hb0⟩
    have hb := hb0
    replace HB := Lib.hid (Below.on HB.out hb)
    replace Ha := Lib.hid (Ha.out.below hb)
    clear hb
    clear hb0
    have ql := long_any w1 Aa na ca (Nat.le_trans ya xa)
    rw [decide_eq_true hla] at ql
    go_wp2_with fail
    refine ql.mono ?_
    rintro e wl ⟨rfl, hwl⟩
    rw [hwl]
    clear ql hwl wl
    go_wp2_with fail
    go_ret
    exact ⟨rfl, HB.out⟩
  go_enter Try.func10, Try.ntmps10
  go_wp2_with fail
  refine (head_any w).mono ?_
  rintro e w1 ⟨rfl, hb0⟩
  have hb := hb0
  replace HB := Lib.hid (Below.on HB.out hb)
  replace Ha := Lib.hid (Ha.out.below hb)
  clear hb
  clear hb0
  have ql := long_any w1 Aa na ca (Nat.le_trans ya xa)
  rw [decide_eq_false hla] at ql
  go_wp2_with fail
  refine ql.mono ?_
  rintro e wl ⟨rfl, hwl⟩
  rw [hwl]
  clear ql hwl wl
  have ka : na ≤ 2000 := by omega
  go_wp2_with fail
  refine (not_any Ha.out (by omega)).mono ?_
  rintro e w2 ⟨Ap1, np1, cp1, lp1, rfl, gp1⟩
  have hb := gp1.below
  replace HB := Lib.hid (Below.on HB.out hb)
  replace Ha := Lib.hid (Ha.out.below hb)
  clear hb
  have Hp1 := Lib.hid gp1.rg
  have Sp1 := so_not gp1.set Ma
  have Mp1 := so_mm Sp1
  have zp1 := gp1.len
  have yp1 := gp1.small
  clear gp1
  go_wp2_with fail
  refine (refNot_any Ha.out (by omega)).mono ?_
  rintro e w3 ⟨Ap2, np2, cp2, lp2, rfl, qp2, gp2⟩
  have hb := gp2.below
  replace HB := Lib.hid (Below.on HB.out hb)
  replace Ha := Lib.hid (Ha.out.below hb)
  replace Hp1 := Lib.hid (Hp1.out.below hb)
  clear hb
  have Hp2 := Lib.hid gp2.rg
  have Sp2 := so_not gp2.set Ma
  have Mp2 := so_mm Sp2
  have zp2 := gp2.len
  have yp2 := gp2.small
  clear gp2
  have he : lp1 = lp2 := Sp1.unique Sp2 (fun c _ _ => by by_cases q0 : mem la c <;> simp [q0])
  go_wp2_with fail
  refine (same_yes Hp1.out Hp2.out he).mono ?_
  rintro e w4 ⟨rfl, hb0⟩
  have hb := hb0
  replace HB := Lib.hid (Below.on HB.out hb)
  replace Ha := Lib.hid (Ha.out.below hb)
  replace Hp1 := Lib.hid (Hp1.out.below hb)
  replace Hp2 := Lib.hid (Hp2.out.below hb)
  clear hb
  clear hb0 he
  go_wp2_with fail
  go_ret
  exact ⟨rfl, HB.out⟩

end Go.Proofs.Ytoglnankopdohaa
