/- InputsRunes: the walk. -/
import Derived.Test.YtkiljhlbeffnfaaDoorLawK
namespace Go.Proofs.YtkiljhlbeffnfaaDoor
open Go.RowKit

set_option maxHeartbeats 2000000 in
theorem runes_walk {w : World} {A : Option Addr} {n c : Nat} {s : ByteArray} (k : Int) (hT : Lib.Utf8Tabs 0 1 w) (hA : BytesIn w A n c s) :
    Calls Tryd.prog 4 #[.int .i64 k, .slice A n c] w fun e w' => e = .returned (.bool true) ∧ Below w.heap.size w w' := by
  have cH := head_any hT
  by_cases hok : (1 ≤ k ∧ k ≤ 3) ∧ n ≤ 65536
  · go_enter Tryd.func4, Tryd.ntmps4
    go_wp2_with fail
    refine cH.mono ?_
    rintro e w1 ⟨rfl, hb1⟩
    have hA1 := hA.below hb1
    have cB := both_ok k hok.1 (tabs_below hT hb1) hA1.rd (Nat.le_refl _) hA1.size hA1.le hA1.max hA1.nil hok.2
    have hsn := hA.size
    clear cH hT hA hA1
    go_wp2_with fail
    refine cB.mono ?_
    rintro e w2 ⟨g, g', m, lo, U, lo', U', hm, rfl, h1, h2, h3, h4, hin, href, hb2⟩
    have hms : m ≤ 65536 := by have := hm.le; omega
    have hbe := hb1.trans (hb2.mono hb1.size)
    have cK := kind_any k hin.2
    have cL := len_any hin.1
    have cD := refLen_any href
    have cR := fun i => rune_any hin.1 i
    have cRr := fun i => refRune_any href i
    have cO := fun i => off_any hin.1 i
    have cOr := fun i => refOff_any href i
    rw [fullLen] at cL
    rw [pre_length] at cD
    have e1 : ((m + 1 : Nat) : Int) - 1 = m := by omega
    rw [e1] at cL
    have hn65 := hok.2
    have HI := Lib.hid hin
    have HR := Lib.hid href
    have HB := Lib.hid hbe
    have HM := Lib.hid hm
    have HS := Lib.hid hsn
    clear hb1 hb2 hbe hin href cB hm e1 hsn hok
    go_wp2_with fail
    refine cK.mono ?_
    rintro e w' ⟨rfl, rfl⟩
    go_wp2_with fail
    refine cL.mono ?_
    rintro e w' ⟨rfl, rfl⟩
    go_wp2_with fail
    refine cD.mono ?_
    rintro e w' ⟨rfl, rfl⟩
    go_wp2_with fail
    go_loopg [9] (m + 4) (fun q i wr => ∃ (j : Nat), q = m + 4 - j ∧ j ≤ m + 3 ∧ i = .int .i64 ((j : Int) - 1) ∧ w2 = wr)
    case atStart => exact ⟨0, rfl, by omega, by go_num, rfl⟩
    case round =>
      obtain ⟨j, hgk, hj, rfl, rfl⟩ := hrel
      have HG := Lib.hid hgk
      clear hgk
      by_cases hlt : j ≤ m + 2
      · have cR' := cR ((j : Int) - 1)
        have cRr' := cRr ((j : Int) - 1)
        have cO' := cO ((j : Int) - 1)
        have cOr' := cOr ((j : Int) - 1)
        generalize runeAt (full (pre s m) s.size) ((j : Int) - 1) = v at cR' cRr'
        generalize offAt (full (pre s m) s.size) ((j : Int) - 1) = u at cO' cOr'
        clear cR cRr cO cOr
        go_wp2_with fail
        refine cD.mono ?_
        rintro e w' ⟨rfl, rfl⟩
        go_wp2_with fail
        refine cR'.mono ?_
        rintro e w' ⟨rfl, rfl⟩
        go_wp2_with fail
        refine cRr'.mono ?_
        rintro e w' ⟨rfl, rfl⟩
        go_wp2_with fail
        refine cO'.mono ?_
        rintro e w' ⟨rfl, rfl⟩
        go_wp2_with fail
        refine cOr'.mono ?_
        rintro e w' ⟨rfl, rfl⟩
        go_wp2_with fail
        go_roundg (m + 4 - (j + 1))
        case measure => have := HG.out; omega
        case rel => exact ⟨j + 1, rfl, by omega, by go_num, rfl⟩
      · clear cR cRr cO cOr
        go_wp2_with fail
        refine cD.mono ?_
        rintro e w' ⟨rfl, rfl⟩
        by_cases h3000 : 3000 < n
        · go_wp2_with fail
          go_ret
          exact ⟨rfl, HB.out⟩
        · have hs : s.size = n := HS.out
          have cP : ∀ wr, Below w2.heap.size w2 wr → ∀ j : Nat, j ≤ n + 2 → Calls Tryd.prog 21 #[.pointer (some ⟨g, 0, none⟩), .int .i64 ((j : Int) - 1)] wr fun e w' => e = .returned (.int .i64 (placeFrom (offsOf (pre s m) s.size) ((j : Int) - 1))) ∧ Below wr.heap.size wr w' := by
            intro wr hb j hj
            rw [← placeOf_from]
            refine place_any (HI.out.1.same (.of_below hb h3)) (Nat.le_trans h3 hb.size) (full_rising HM.out) (by rw [fullLen]; omega) (fun p hp => ?_) _ (by omega) (by omega)
            have := full_small HM.out p hp
            omega
          have cPr : ∀ wr, Below w2.heap.size w2 wr → ∀ j : Nat, Calls Tryd.prog 22 #[.pointer (some ⟨g', 0, none⟩), .int .i64 ((j : Int) - 1)] wr fun e w' => e = .returned (.int .i64 (placeFrom (offsOf (pre s m) s.size) ((j : Int) - 1))) ∧ wr = w' := by
            intro wr hb j
            exact refPlace_any (HR.out.same (.of_below hb h4)) _
          clear hs
          go_wp2_with fail
          go_loopg [10] (n + 4) (fun q i wr => ∃ (j : Nat), q = n + 4 - j ∧ j ≤ n + 3 ∧ i = .int .i64 ((j : Int) - 1) ∧ Hid (Below w2.heap.size w2 wr))
          case atStart => exact ⟨0, rfl, by omega, by go_num, Lib.hid (Below.refl _ _)⟩
          case round =>
            obtain ⟨j, hgk, hj, rfl, hw⟩ := hrel
            have HG := Lib.hid hgk
            clear hgk
            by_cases hlt : j ≤ n + 2
            · have cP' := cP wr hw.out j hlt
              have cPr' := fun wr h => cPr wr h j
              generalize placeFrom (offsOf (pre s m) s.size) ((j : Int) - 1) = v at cP' cPr'
              clear cP cPr
              go_wp2_with fail
              refine cP'.mono ?_
              rintro e w3 ⟨rfl, hb3⟩
              have hw3 := hw.out.trans (hb3.mono hw.out.size)
              have cPr2 := cPr' w3 hw3
              have HW3 := Lib.hid hw3
              clear hw3 hb3
              go_wp2_with fail
              refine cPr2.mono ?_
              rintro e w' ⟨rfl, rfl⟩
              go_wp2_with fail
              go_roundg (n + 4 - (j + 1))
              case measure => have := HG.out; omega
              case rel => exact ⟨j + 1, rfl, by omega, by go_num, HW3⟩
            · clear cP cPr
              go_wp2_with fail
              go_ret
              have h1 := HB.out
              exact ⟨rfl, h1.trans (hw.out.mono h1.size)⟩
  · go_enter Tryd.func4, Tryd.ntmps4
    go_wp2_with fail
    refine cH.mono ?_
    rintro e w1 ⟨rfl, hb1⟩
    have hA1 := hA.below hb1
    have cB := both_no k hA1.rd (Nat.le_refl _) hA1.size hA1.le hA1.max hA1.nil hA1.reach (by omega)
    clear cH hT hA hA1
    go_wp2_with fail
    refine cB.mono ?_
    rintro e w2 ⟨rfl, hb2⟩
    have HB := Lib.hid (hb1.trans (hb2.mono hb1.size))
    clear hb1 hb2 cB
    go_wp2_with fail
    go_ret
    exact ⟨rfl, HB.out⟩
end Go.Proofs.YtkiljhlbeffnfaaDoor
