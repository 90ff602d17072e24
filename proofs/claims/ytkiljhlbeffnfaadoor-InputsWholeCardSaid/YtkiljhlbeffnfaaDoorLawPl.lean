/- InputsPlaces: the walk. -/
import Derived.Test.YtkiljhlbeffnfaaDoorIn10
namespace Go.Proofs.YtkiljhlbeffnfaaDoor
open Go.RowKit

/-- What the laws' slice of bytes is, as the walks want it. -/
structure BytesIn (w : World) (A : Option Addr) (n c : Nat) (s : ByteArray) : Prop where
  rd : Rd w 0 w.heap.size A (byteVals s.data.toList)
  size : s.size = n
  le : n ≤ c
  max : c ≤ maxLen
  nil : A = none → n = 0
  reach : n ≤ 140737488351232
theorem BytesIn.below {w w' : World} {A : Option Addr} {n c : Nat} {s : ByteArray} (h : BytesIn w A n c s) (hb : Below w.heap.size w w') : BytesIn w' A n c s :=
  ⟨(h.rd.same (.of_below hb (Nat.le_refl _))).mono (Nat.le_refl _) hb.size, h.size, h.le, h.max, h.nil, h.reach⟩

theorem pre_nonneg (s : ByteArray) (m : Nat) : ∀ p ∈ pre s m, 0 ≤ p.1 := by
  intro p hp
  obtain ⟨k, _, rfl⟩ := List.mem_map.1 hp
  simp [symN]

set_option maxHeartbeats 1000000 in
theorem places_walk {w : World} {A : Option Addr} {n c : Nat} {s : ByteArray} (k : Int) (hT : Lib.Utf8Tabs 0 1 w) (hA : BytesIn w A n c s) :
    Calls Tryd.prog 5 #[.int .i64 k, .slice A n c] w fun e w' => e = .returned (.bool true) ∧ Below w.heap.size w w' := by
  have cH := head_any hT
  by_cases hok : (1 ≤ k ∧ k ≤ 3) ∧ n ≤ 65536
  · go_enter Tryd.func5, Tryd.ntmps5
    go_wp2_with fail
    refine cH.mono ?_
    rintro e w1 ⟨rfl, hb1⟩
    have hA1 := hA.below hb1
    have cB := both_ok k hok.1 (tabs_below hT hb1) hA1.rd (Nat.le_refl _) hA1.size hA1.le hA1.max hA1.nil hok.2
    have hsn := hA.size
    clear cH hT hA hA1
    go_wp2_with fail
    refine cB.mono ?_
    rintro e w2 ⟨g, g', m, lo, U, lo', U', hm, rfl, h1, h2, h3, h4, hin, href, hb2⟩
    have hms : m ≤ 65536 := by have := hm.le; omega
    clear hsn
    have hbe := hb1.trans (hb2.mono hb1.size)
    have HB := Lib.hid hbe
    have HI := Lib.hid hin
    have HR := Lib.hid href
    clear hb1 hb2 hbe hin href cB hm
    go_wp2_with fail
    have hpl : (pre s m).length = m := pre_length s m
    go_loopg [9] (m + 6) (fun q i wr => ∃ (j : Nat) (d : Nat), q = m + 6 - j ∧ j ≤ m + 5 ∧ i = .int .i64 ((j : Int) - 2) ∧ wr = w2.drewN d)
    case atStart => exact ⟨0, 0, rfl, by omega, by go_num, rfl⟩
    case round =>
      obtain ⟨j, d, hgk, hj, rfl, rfl⟩ := hrel
      have HG := Lib.hid hgk
      have cL := refLen_any (HR.out.drewN d)
      rw [hpl] at cL
      have HPL := Lib.hid hpl
      clear hgk hpl
      by_cases hlt : j ≤ m + 4
      · have cA := at_any (HI.out.1.drewN d) ((j : Int) - 2) (by omega)
        have cD := fun d => refAt_any (HR.out.drewN d) (pre_nonneg s m) ((j : Int) - 2)
        generalize atAt (full (pre s m) s.size) ((j : Int) - 2) = v at cA cD
        go_wp2_with fail
        refine cL.mono ?_
        rintro e w' ⟨rfl, rfl⟩
        go_wp2_with fail
        refine cA.mono ?_
        rintro e w' ⟨rfl, d', rfl⟩
        go_wp2_with fail
        refine (cD _).mono ?_
        rintro e w' ⟨rfl, rfl⟩
        go_wp2_with fail
        go_roundg (m + 6 - (j + 1))
        case measure => have := HG.out; omega
        case rel => exact ⟨j + 1, _, rfl, by omega, by go_num, rfl⟩
      · go_wp2_with fail
        refine cL.mono ?_
        rintro e w' ⟨rfl, rfl⟩
        go_wp2_with fail
        go_ret
        exact ⟨rfl, HB.out.drewN⟩
  · go_enter Tryd.func5, Tryd.ntmps5
    go_wp2_with fail
    refine cH.mono ?_
    rintro e w1 ⟨rfl, hb1⟩
    have hA1 := hA.below hb1
    have cB := both_no k hA1.rd (Nat.le_refl _) hA1.size hA1.le hA1.max hA1.nil hA1.reach (by omega)
    clear cH hT hA hA1
    go_wp2_with fail
    refine cB.mono ?_
    rintro e w2 ⟨rfl, hb2⟩
    have HB := Lib.hid (hb1.trans (hb2.mono hb1.size))
    clear hb1 hb2 cB
    go_wp2_with fail
    go_ret
    exact ⟨rfl, HB.out⟩
end Go.Proofs.YtkiljhlbeffnfaaDoor
