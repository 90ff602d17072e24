/- Threads: the set of numbers: has. -/
import Derived.Test.YtbhcgjahlfpjoaaDoorIl1
import Derived.Test.YtbhcgjahlfpjoaaDoorHeld
import Derived.BigQuiet
import Derived.BigGuard
namespace Go.Proofs.YtbhcgjahlfpjoaaDoor
open Go.RowKit

set_option maxHeartbeats 2000000 in
theorem has17_any {w : World} {g o : Nat} {A N : Option Addr} {na ca k kc q pc : Nat} {ats nums : List Int} (c0 : w.cell? ⟨g, o, none⟩ = some (.slice A na ca)) (c1 : w.cell? ⟨g, o + 1, none⟩ = some (.slice N k kc)) (hA : IlIn w A na ca ats) (hN : IlIn w N k kc nums) (hq : ats[pc]? = some (q : Int)) (hpc : pc < na) :
    Calls Tryd.prog 46 #[.pointer (some ⟨g, o, none⟩), .int .i64 (pc : Int)] w fun e w' => e = .returned (.bool (nums[q]? == some (pc : Int))) ∧ ∃ n, w' = w.drewN n := by
  obtain ⟨b1, o1, x, rfl, _, hx, hc1⟩ := hA.at hpc
  rw [hq] at hx
  injection hx with hx
  subst hx
  have d1 := hc1 w (Same.refl _ _ _)
  have h1 := hN.max
  have h2 := hN.le
  have hlen := hN.len
  unfold maxLen at h1
  have hki : (k : Int) ≤ 9223372036854775807 := by omega
  have ipc : (pc : Int) < (na : Int) := by omega
  by_cases hqk : q < k
  · obtain ⟨b2, o2, y, rfl, _, hy, hc2⟩ := hN.at hqk
    have d2 := hc2 w (Same.refl _ _ _)
    have e1 : decide ((q : Int) < (k : Int)) = true := decide_eq_true (by omega)
    have iq : (q : Int) < (k : Int) := by omega
    have HV : Hid ((y == (pc : Int)) = (nums[q]? == some (pc : Int))) := Lib.hid (by rw [hy]; simp)
    clear hA hN hc1 hc2 hy hq h1 h2 hlen hpc hqk
    go_enter Tryd.func46, Tryd.ntmps46
    go_wp2_with fail
    go_quiet (fail)
    go_wp2_with fail
    go_ret
    exact ⟨by rw [← HV.out]; rfl, _, rfl⟩
  · have e1 : decide ((q : Int) < (k : Int)) = false := decide_eq_false (by omega)
    have e2 : decide (q < k) = false := decide_eq_false (by omega)
    have iq : ¬ (q : Int) < (k : Int) := by omega
    have HV : Hid ((nums[q]? == some (pc : Int)) = false) := Lib.hid (by rw [List.getElem?_eq_none (by omega)]; rfl)
    clear hA hN hc1 hq h1 h2 hlen hpc hqk
    go_enter Tryd.func46, Tryd.ntmps46
    go_wp2_with fail
    go_quiet (fail)
    go_wp2_with fail
    go_ret
    exact ⟨by rw [HV.out]; rfl, _, rfl⟩
end Go.Proofs.YtbhcgjahlfpjoaaDoor
