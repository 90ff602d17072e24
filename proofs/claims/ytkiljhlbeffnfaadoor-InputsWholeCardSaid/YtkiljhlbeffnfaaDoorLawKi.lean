/- InputsKinds: the walk. -/
import Derived.Test.YtkiljhlbeffnfaaDoorLawK
namespace Go.Proofs.YtkiljhlbeffnfaaDoor
open Go.RowKit

theorem quiet_eq {P : Program} {f : FuncId} {args : Array Value} {w : World} {n : Nat} {v : Value}
    (h : Calls P f args (w.drewN n) fun e w' => e = .returned v ∧ w.drewN n = w') : Calls P f args (w.drewN n) fun e w'' => e = .returned v ∧ ∃ m, w'' = w.drewN m :=
  h.mono fun _ _ ⟨he, hm⟩ => ⟨he, n, hm.symm⟩

theorem BytesIn.new {w : World} {A : Option Addr} {n c : Nat} {s : ByteArray} (h : BytesIn w A n c s) (hT : Lib.Utf8Tabs 0 1 w) (k : Int) (hk : 1 ≤ k ∧ k ≤ 3) (hn : n ≤ 65536) :
    Calls Tryd.prog 25 #[.int .i64 k, .slice A n c] w (NewPost w k s) :=
  new_ok k hk hT h.rd (Nat.le_refl _) h.size h.le h.max h.nil hn

set_option maxRecDepth 20000 in
set_option maxHeartbeats 4000000 in
theorem kinds_walk {w : World} {A : Option Addr} {n c : Nat} {s : ByteArray} (hT : Lib.Utf8Tabs 0 1 w) (hA : BytesIn w A n c s) :
    Calls Tryd.prog 6 #[.slice A n c] w fun e w' => e = .returned (.bool true) ∧ Below w.heap.size w w' := by
  have cH := head_any hT
  by_cases hok : n ≤ 65536
  · go_enter Tryd.func6, Tryd.ntmps6
    go_wp2_with fail
    refine cH.mono ?_
    rintro e w1 ⟨rfl, hb1⟩
    have hA1 := hA.below hb1
    have hT1 := tabs_below hT hb1
    have cN := hA1.new hT1 1 (by omega) hok
    have hsn := hA.size
    have HB1 := Lib.hid hb1
    clear cH hT hA hb1
    go_wp2_with fail
    refine cN.mono ?_
    rintro e w2 ⟨g, m, hm, rfl, hin, hb2⟩
    have hA2 := hA1.below hb2
    have hT2 := tabs_below hT1 hb2
    have cN2 := hA2.new hT2 2 (by omega) hok
    have HI := Lib.hid hin
    have HB2 := Lib.hid hb2
    clear cN hT1 hA1 hin hb2
    go_wp2_with fail
    refine cN2.mono ?_
    rintro e w3 ⟨g2, m2, hm2, rfl, hin, hb3⟩
    obtain rfl := hm.unique hm2
    have hA3 := hA2.below hb3
    have hT3 := tabs_below hT2 hb3
    have cN3 := hA3.new hT3 3 (by omega) hok
    have HI2 := Lib.hid hin
    have HB3 := Lib.hid hb3
    clear cN2 hT2 hA2 hin hb3 hm2
    go_wp2_with fail
    refine cN3.mono ?_
    rintro e w4 ⟨g3, m3, hm3, rfl, hin3, hb4⟩
    obtain rfl := hm.unique hm3
    have s3 : Same 0 w3.heap.size w3 w4 := .of_below hb4 (Nat.le_refl _)
    have s2 : Same 0 w2.heap.size w2 w4 := ((Same.of_below HB3.out (Nat.le_refl _)).trans (s3.mono (Nat.le_refl _) HB3.out.size))
    have hin1 := HI.out.same (s2.mono (Nat.zero_le _) (Nat.le_refl _))
    have hin2 := HI2.out.same (s3.mono (Nat.zero_le _) (Nat.le_refl _))
    have hbe : Below w.heap.size w w4 := by
      have h1 := HB1.out.size
      have h2 := HB2.out.size
      have h3 := HB3.out.size
      exact ((HB1.out.trans (HB2.out.mono h1)).trans (HB3.out.mono (by omega))).trans (hb4.mono (by omega))
    have HU1 : Hid (w2.heap.size ≤ w4.heap.size) := Lib.hid (Nat.le_trans HB3.out.size hb4.size)
    have HU2 : Hid (w3.heap.size ≤ w4.heap.size) := Lib.hid hb4.size
    have HU3 : Hid (w4.heap.size ≤ w4.heap.size) := Lib.hid (Nat.le_refl _)
    have hms : m ≤ 65536 := by have := hm.le; omega
    have HB := Lib.hid hbe
    clear cN3 hT3 hA3 hm hm3 hb4 s2 s3 hbe HB1 HB2 HB3 HI HI2 hsn
    have hfl := fullLen s m
    have e1 : ((full (pre s m) s.size).length : Int) - 1 = m := by omega
    generalize full (pre s m) s.size = l at hin1 hin2 hin3 e1
    clear hfl
    have cL := fun d => len_any (hin1.drewN d).1
    have cL2 := fun d => len_any (hin2.drewN d).1
    have cL3 := fun d => len_any (hin3.drewN d).1
    rw [e1] at cL cL2 cL3
    have H1 := Lib.hid hin1
    have H2 := Lib.hid hin2
    have H3 := Lib.hid hin3
    clear hin1 hin2 hin3 e1
    go_wp2_with fail
    go_quiet (first
      | (go_at_call_of 15 g; exact quiet_eq (cL _))
      | (go_at_call_of 15 g2; exact quiet_eq (cL2 _))
      | (go_at_call_of 15 g3; exact quiet_eq (cL3 _)))
    go_wp2_with fail
    go_loopg [10] (m + 2) (fun q i wr => ∃ (j : Nat), q = m + 2 - j ∧ j ≤ m + 1 ∧ i = .int .i64 (j : Int) ∧ Hid (∃ d, wr = w4.drewN d))
    case atStart => exact ⟨0, rfl, by omega, by go_num, Lib.hid ⟨_, rfl⟩⟩
    case round =>
      obtain ⟨j, hgk, hj, rfl, HWR⟩ := hrel
      have HSM : Same 0 w4.heap.size w4 wr := by obtain ⟨d, rfl⟩ := HWR.out; exact (Same.refl _ _ _).drewN d
      have hi1 := H1.out.same (HSM.mono (Nat.zero_le _) HU1.out)
      have hi2 := H2.out.same (HSM.mono (Nat.zero_le _) HU2.out)
      have hi3 := H3.out.same (HSM.mono (Nat.zero_le _) HU3.out)
      have cLd : Calls Tryd.prog 15 #[.pointer (some ⟨g, 0, none⟩)] wr fun e w' => e = .returned (.int .i64 (m : Int)) ∧ wr = w' := by obtain ⟨d, rfl⟩ := HWR.out; exact cL d
      have HG := Lib.hid hgk
      clear hgk
      clear cL cL2 cL3 H1 H2 H3
      by_cases hlt : j ≤ m
      · have cR := fun n => rune_any (hi1.drewN n).1 (j : Int)
        have cR2 := fun n => rune_any (hi2.drewN n).1 (j : Int)
        have cR3 := fun n => rune_any (hi3.drewN n).1 (j : Int)
        have cO := fun n => off_any (hi1.drewN n).1 (j : Int)
        have cO2 := fun n => off_any (hi2.drewN n).1 (j : Int)
        have cO3 := fun n => off_any (hi3.drewN n).1 (j : Int)
        have cA := fun n => at_any (hi1.drewN n).1 (j : Int) (by omega)
        have cA2 := fun n => at_any (hi2.drewN n).1 (j : Int) (by omega)
        have cA3 := fun n => at_any (hi3.drewN n).1 (j : Int) (by omega)
        generalize runeAt l (j : Int) = v at cR cR2 cR3
        generalize offAt l (j : Int) = u at cO cO2 cO3
        generalize atAt l (j : Int) = x at cA cA2 cA3
        clear hi1 hi2 hi3 HSM HU1 HU2 HU3
        go_wp2_with fail
        refine cLd.mono ?_
        rintro e w' ⟨rfl, rfl⟩
        go_wp2_with fail
        go_quiet (first
          | (go_at_call_of 17 g; exact quiet_eq (cR _))
          | (go_at_call_of 17 g2; exact quiet_eq (cR2 _))
          | (go_at_call_of 17 g3; exact quiet_eq (cR3 _))
          | (go_at_call_of 19 g; exact quiet_eq (cO _))
          | (go_at_call_of 19 g2; exact quiet_eq (cO2 _))
          | (go_at_call_of 19 g3; exact quiet_eq (cO3 _))
          | (go_at_call_of 23 g; exact Calls.quiet_of (cA _))
          | (go_at_call_of 23 g2; exact Calls.quiet_of (cA2 _))
          | (go_at_call_of 23 g3; exact Calls.quiet_of (cA3 _)))
        go_wp2_with fail
        go_roundg (m + 2 - (j + 1))
        case measure => have := HG.out; omega
        case rel => exact ⟨j + 1, rfl, by omega, by go_num, by obtain ⟨d, rfl⟩ := HWR.out; exact Lib.hid ⟨_, World.drewN_drewN _ _ _⟩⟩
      · go_wp2_with fail
        refine cLd.mono ?_
        rintro e w' ⟨rfl, rfl⟩
        go_wp2_with fail
        go_ret
        obtain ⟨d, rfl⟩ := HWR.out
        exact ⟨rfl, HB.out.drewN⟩
  · have hb := hA.reach
    have hm : n ≤ maxLen := Nat.le_trans hA.le hA.max
    have c1 := fun w => new_many 1 A n c w (by omega) (by omega) hm
    have c2 := fun w => new_many 2 A n c w (by omega) (by omega) hm
    have c3 := fun w => new_many 3 A n c w (by omega) (by omega) hm
    clear hA hT
    go_enter Tryd.func6, Tryd.ntmps6
    go_wp2_with fail
    refine cH.mono ?_
    rintro e w1 ⟨rfl, hb1⟩
    go_wp2_with fail
    refine (c1 _).mono ?_
    rintro e w' ⟨rfl, rfl⟩
    go_wp2_with fail
    refine (c2 _).mono ?_
    rintro e w' ⟨rfl, rfl⟩
    go_wp2_with fail
    refine (c3 _).mono ?_
    rintro e w' ⟨rfl, rfl⟩
    go_wp2_with fail
    go_ret
    exact ⟨rfl, hb1⟩
end Go.Proofs.YtkiljhlbeffnfaaDoor
