/- SetsMeet: the walk. -/
import Derived.Test.YtoglnankopdohaaRefS
namespace Go.Proofs.Ytoglnankopdohaa
open Go.RowKit

set_option maxRecDepth 20000 in
set_option maxHeartbeats 4000000 in
theorem setsMeet_walk {w : World} {Aa : Option Addr} {na ca : Nat} {la : List Rg} {Ab : Option Addr} {nb cb : Nat} {lb : List Rg} (ha : RgIn w Aa na ca la) (hb : RgIn w Ab nb cb lb)   :
    Calls Try.prog 12 #[.slice Aa na ca, .slice Ab nb cb] w fun e w' => e = .returned (.bool true) ∧ Below w.heap.size w w' := by
  have Ma := Mm.raw la
  have xa := ha.max
  have ya := ha.le
  have za := ha.len
  have Mb := Mm.raw lb
  have xb := hb.max
  have yb := hb.le
  have zb := hb.len
  have HB := Lib.hid (Below.refl w.heap.size w)
  have Ha := Lib.hid ha
  have Hb := Lib.hid hb
  clear ha hb
  by_cases hla : 2000 < na
  · skip
    go_enter Try.func12, Try.ntmps12
    go_wp2_with fail
    refine (head_any w).mono ?_
    rintro e w1 ⟨rfl, hb0⟩
    have hb := hb0
    replace HB := Lib.hid (Below.on HB.out hb)
    replace Ha := Lib.hid (Ha.out.below hb)
    replace Hb := Lib.hid (Hb.out.below hb)
    clear hb
    clear hb0
    have ql := long_any w1 Aa na ca (Nat.le_trans ya xa)
    rw [decide_eq_true hla] at ql
    go_wp2_with fail
    refine ql.mono ?_
    rintro e wl ⟨rfl, hwl⟩
    rw [hwl]
    clear ql hwl wl
    go_wp2_with fail
    go_ret
    exact ⟨rfl, HB.out⟩
  by_cases hlb : 2000 < nb
  · skip
    go_enter Try.func12, Try.ntmps12
    go_wp2_with fail
    refine (head_any w).mono ?_
    rintro e w1 ⟨rfl, hb0⟩
    have hb := hb0
    replace HB := Lib.hid (Below.on HB.out hb)
    replace Ha := Lib.hid (Ha.out.below hb)
    replace Hb := Lib.hid (Hb.out.below hb)
    clear hb
    clear hb0
    have ql := long_any w1 Aa na ca (Nat.le_trans ya xa)
    rw [decide_eq_false hla] at ql
    go_wp2_with fail
    refine ql.mono ?_
    rintro e wl ⟨rfl, hwl⟩
    rw [hwl]
    clear ql hwl wl
    have ql := long_any w1 Ab nb cb (Nat.le_trans yb xb)
    rw [decide_eq_true hlb] at ql
    go_wp2_with fail
    refine ql.mono ?_
    rintro e wl ⟨rfl, hwl⟩
    rw [hwl]
    clear ql hwl wl
    go_wp2_with fail
    go_ret
    exact ⟨rfl, HB.out⟩
  go_enter Try.func12, Try.ntmps12
  go_wp2_with fail
  refine (head_any w).mono ?_
  rintro e w1 ⟨rfl, hb0⟩
  have hb := hb0
  replace HB := Lib.hid (Below.on HB.out hb)
  replace Ha := Lib.hid (Ha.out.below hb)
  replace Hb := Lib.hid (Hb.out.below hb)
  clear hb
  clear hb0
  have ql := long_any w1 Aa na ca (Nat.le_trans ya xa)
  rw [decide_eq_false hla] at ql
  go_wp2_with fail
  refine ql.mono ?_
  rintro e wl ⟨rfl, hwl⟩
  rw [hwl]
  clear ql hwl wl
  have ql := long_any w1 Ab nb cb (Nat.le_trans yb xb)
  rw [decide_eq_false hlb] at ql
  go_wp2_with fail
  refine ql.mono ?_
  rintro e wl ⟨rfl, hwl⟩
  rw [hwl]
  clear ql hwl wl
  have ka : na ≤ 2000 := by omega
  have kb : nb ≤ 2000 := by omega
  go_wp2_with fail
  refine (meet_any Ha.out Hb.out (by omega) (by omega)).mono ?_
  rintro e w2 ⟨Ap1, np1, cp1, lp1, rfl, gp1⟩
  have hb := gp1.below
  replace HB := Lib.hid (Below.on HB.out hb)
  replace Ha := Lib.hid (Ha.out.below hb)
  replace Hb := Lib.hid (Hb.out.below hb)
  clear hb
  have Hp1 := Lib.hid gp1.rg
  have Sp1 := so_and gp1.set Ma Mb
  have Mp1 := so_mm Sp1
  have zp1 := gp1.len
  have yp1 := gp1.small
  clear gp1
  go_wp2_with fail
  refine (refMeet_any Ha.out Hb.out (by omega)).mono ?_
  rintro e w3 ⟨Ap2, np2, cp2, lp2, rfl, gp2⟩
  have hb := gp2.below
  replace HB := Lib.hid (Below.on HB.out hb)
  replace Ha := Lib.hid (Ha.out.below hb)
  replace Hb := Lib.hid (Hb.out.below hb)
  replace Hp1 := Lib.hid (Hp1.out.below hb)
  clear hb
  have Hp2 := Lib.hid gp2.rg
  have Sp2 := so_and gp2.set Ma Mb
  have Mp2 := so_mm Sp2
  have zp2 := gp2.len
  have yp2 := gp2.small
  clear gp2
  have he : lp1 = lp2 := Sp1.unique Sp2 (fun c _ _ => by by_cases q0 : mem la c <;> by_cases q1 : mem lb c <;> simp [q0, q1])
  go_wp2_with fail
  refine (same_yes Hp1.out Hp2.out he).mono ?_
  rintro e w4 ⟨rfl, hb0⟩
  have hb := hb0
  replace HB := Lib.hid (Below.on HB.out hb)
  replace Ha := Lib.hid (Ha.out.below hb)
  replace Hb := Lib.hid (Hb.out.below hb)
  replace Hp1 := Lib.hid (Hp1.out.below hb)
  replace Hp2 := Lib.hid (Hp2.out.below hb)
  clear hb
  clear hb0 he
  go_wp2_with fail
  go_ret
  exact ⟨rfl, HB.out⟩

end Go.Proofs.Ytoglnankopdohaa
