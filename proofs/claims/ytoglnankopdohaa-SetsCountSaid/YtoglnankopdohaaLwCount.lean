/- SetsCount: the walk. -/
import Derived.Test.YtoglnankopdohaaRefS
namespace Go.Proofs.Ytoglnankopdohaa
open Go.RowKit

set_option maxRecDepth 20000 in
set_option maxHeartbeats 4000000 in
theorem setsCount_walk {w : World} {Aa : Option Addr} {na ca : Nat} {la : List Rg} (ha : RgIn w Aa na ca la)   :
    Calls Try.prog 14 #[.slice Aa na ca] w fun e w' => e = .returned (.bool true) ∧ Below w.heap.size w w' := by
  have Ma := Mm.raw la
  have xa := ha.max
  have ya := ha.le
  have za := ha.len
  have HB := Lib.hid (Below.refl w.heap.size w)
  have Ha := Lib.hid ha
  clear ha
  by_cases hla : 2000 < na
  · skip
    go_enter Try.func14, Try.ntmps14
    go_wp2_with fail
    refine (head_any w).mono ?_
    rintro e w1 ⟨rfl, hb0⟩
    have hb := hb0
    replace HB := Lib.hid (Below.on HB.out hb)
    replace Ha := Lib.hid (Ha.out.below hb)
    clear hb
    clear hb0
    have ql := long_any w1 Aa na ca (Nat.le_trans ya xa)
    rw [decide_eq_true hla] at ql
    go_wp2_with fail
    refine ql.mono ?_
    rintro e wl ⟨rfl, hwl⟩
    rw [hwl]
    clear ql hwl wl
    go_wp2_with fail
    go_ret
    exact ⟨rfl, HB.out⟩
  go_enter Try.func14, Try.ntmps14
  go_wp2_with fail
  refine (head_any w).mono ?_
  rintro e w1 ⟨rfl, hb0⟩
  have hb := hb0
  replace HB := Lib.hid (Below.on HB.out hb)
  replace Ha := Lib.hid (Ha.out.below hb)
  clear hb
  clear hb0
  have ql := long_any w1 Aa na ca (Nat.le_trans ya xa)
  rw [decide_eq_false hla] at ql
  go_wp2_with fail
  refine ql.mono ?_
  rintro e wl ⟨rfl, hwl⟩
  rw [hwl]
  clear ql hwl wl
  have ka : na ≤ 2000 := by omega
  have hq := count_any Ha.out (by omega)
  go_wp2_with fail
  refine hq.mono ?_
  rintro e w2 ⟨⟨s1, hs1, rfl⟩, hb⟩
  clear hq
  replace HB := Lib.hid (Below.on HB.out hb)
  replace Ha := Lib.hid (Ha.out.below hb)
  clear hb
  have hq := refCount_any Ha.out (by omega)
  go_wp2_with fail
  refine hq.mono ?_
  rintro e w3 ⟨⟨s2, hs2, rfl⟩, hb⟩
  clear hq
  replace HB := Lib.hid (Below.on HB.out hb)
  replace Ha := Lib.hid (Ha.out.below hb)
  clear hb
  have he : s1 = s2 := hs1.unique hs2 (fun _ _ _ => Iff.rfl)
  subst he
  clear hs1 hs2
  generalize countR s1 = C
  go_wp2_with fail
  go_ret
  exact ⟨rfl, HB.out⟩

end Go.Proofs.Ytoglnankopdohaa
