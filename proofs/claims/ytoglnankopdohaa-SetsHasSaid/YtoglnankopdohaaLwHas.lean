/- SetsHas: the walk. -/
import Derived.Test.YtoglnankopdohaaLawS0
namespace Go.Proofs.Ytoglnankopdohaa
open Go.RowKit

set_option maxRecDepth 20000 in
set_option maxHeartbeats 4000000 in
theorem setsHas_walk {w : World} {Aa : Option Addr} {na ca : Nat} {la : List Rg} (ha : RgIn w Aa na ca la) (x : Int)  :
    Calls Try.prog 7 #[.slice Aa na ca, .int .i32 x] w fun e w' => e = .returned (.bool true) ∧ Below w.heap.size w w' := by
  have Ma := Mm.raw la
  have xa := ha.max
  have ya := ha.le
  have za := ha.len
  have HB := Lib.hid (Below.refl w.heap.size w)
  have Ha := Lib.hid ha
  clear ha
  go_enter Try.func7, Try.ntmps7
  go_wp2_with fail
  refine (head_any w).mono ?_
  rintro e w1 ⟨rfl, hb0⟩
  have hb := hb0
  replace HB := Lib.hid (Below.on HB.out hb)
  replace Ha := Lib.hid (Ha.out.below hb)
  clear hb
  clear hb0
  go_wp2_with fail
  refine (has_any Ha.out x).mono ?_
  rintro e w2 ⟨rfl, hb0⟩
  have hb := hb0
  replace HB := Lib.hid (Below.on HB.out hb)
  replace Ha := Lib.hid (Ha.out.below hb)
  clear hb
  clear hb0
  go_wp2_with fail
  refine (refHas_any Ha.out x).mono ?_
  rintro e _ ⟨rfl, rfl⟩
  generalize hasB la x = r
  cases r
  all_goals go_wp2_with fail
  all_goals go_ret
  all_goals exact ⟨rfl, HB.out⟩

end Go.Proofs.Ytoglnankopdohaa
