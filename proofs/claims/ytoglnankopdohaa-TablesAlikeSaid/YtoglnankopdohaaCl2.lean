/- layer 4: its head. -/
import Derived.Test.YtoglnankopdohaaCl1
namespace Go.Proofs.Ytoglnankopdohaa
open Go.RowKit

theorem told_plain {l : List Rg} {w : World} {B : Option Addr} {m d : Nat} {s : List Rg} {w' : World} (h : Told false l w B m d s w') (hc : Canon l) : s = l :=
  h.set.unique (SetOf.self hc) (fun c _ _ => by simp [TP])

set_option maxRecDepth 20000 in
set_option maxHeartbeats 2000000 in
theorem head4_any (w : World) : Calls Try.prog 42 #[] w fun e w' => e = .returned (.bool true) ∧ Below w.heap.size w w' := by
  have h1 := perl_100 w
  go_enter Try.func42, Try.ntmps42
  go_wp2_with fail
  refine h1.mono ?_
  rintro e w1 ⟨B, m, d, s, rfl, hg⟩
  clear h1
  have hs := told_plain hg perlD_ok
  subst hs
  obtain rfl : 1 = m := hg.rg.len
  obtain ⟨b, o, p, rfl, hb, hp, hc, _⟩ := hg.rg.at (k := 0) (Nat.zero_lt_one)
  simp only [perlD, List.getElem?_cons_zero, Option.some.injEq] at hp
  subst hp
  obtain ⟨c1, c2⟩ := hc w1 (Same.refl _ _ _)
  simp only [Nat.zero_mul, Nat.add_zero] at c1 c2
  have HB := Lib.hid hg.below
  have h2 := dot_any w1 false
  clear hg hc hb
  go_wp2_with fail
  refine h2.mono ?_
  rintro e w2 ⟨B2, m2, d2, s2, rfl, hg2⟩
  have hs2 : s2 = [(0, 9), (11, 1114111)] := by
    refine canon_unique hg2.set.canon (canonB (by decide) (by decide)) fun c => ?_
    rw [hg2.set.mem]
    simp only [Bool.false_eq_true, if_false, dotL, mem_cons, mem_nil, or_false]
    unfold maxR
    omega
  obtain rfl : 2 = m2 := by rw [← hg2.len, hs2]; rfl
  replace HB := Lib.hid (Below.on HB.out hg2.below)
  clear h2 hg2 hs2
  go_wp2_with fail
  go_ret
  exact ⟨rfl, HB.out⟩
end Go.Proofs.Ytoglnankopdohaa
