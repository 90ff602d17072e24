/- SetsOrder: the walk. -/
import Derived.Test.YtoglnankopdohaaLawS0
namespace Go.Proofs.Ytoglnankopdohaa
open Go.RowKit

set_option maxRecDepth 20000 in
set_option maxHeartbeats 4000000 in
theorem setsOrder_walk {w : World} {Aa : Option Addr} {na ca : Nat} {la : List Rg} {Ab : Option Addr} {nb cb : Nat} {lb : List Rg} {Ac : Option Addr} {nc cc : Nat} {lc : List Rg} (ha : RgIn w Aa na ca la) (hb : RgIn w Ab nb cb lb) (hc : RgIn w Ac nc cc lc)   :
    Calls Try.prog 13 #[.slice Aa na ca, .slice Ab nb cb, .slice Ac nc cc] w fun e w' => e = .returned (.bool true) ∧ Below w.heap.size w w' := by
  have Ma := Mm.raw la
  have xa := ha.max
  have ya := ha.le
  have za := ha.len
  have Mb := Mm.raw lb
  have xb := hb.max
  have yb := hb.le
  have zb := hb.len
  have Mc := Mm.raw lc
  have xc := hc.max
  have yc := hc.le
  have zc := hc.len
  have HB := Lib.hid (Below.refl w.heap.size w)
  have Ha := Lib.hid ha
  have Hb := Lib.hid hb
  have Hc := Lib.hid hc
  clear ha hb hc
  by_cases hla : 2000 < na
  · skip
    go_enter Try.func13, Try.ntmps13
    go_wp2_with fail
    refine (head_any w).mono ?_
    rintro e w1 ⟨rfl, hb0⟩
    have hb := hb0
    replace HB := Lib.hid (Below.on HB.out hb)
    replace Ha := Lib.hid (Ha.out.below hb)
    replace Hb := Lib.hid (Hb.out.below hb)
    replace Hc := Lib.hid (Hc.out.below hb)
    clear hb
    clear hb0
    have ql := long_any w1 Aa na ca (Nat.le_trans ya xa)
    rw [decide_eq_true hla] at ql
    go_wp2_with fail
    refine ql.mono ?_
    rintro e wl ⟨rfl, hwl⟩
    rw [hwl]
    clear ql hwl wl
    go_wp2_with fail
    go_ret
    exact ⟨rfl, HB.out⟩
  by_cases hlb : 2000 < nb
  · skip
    go_enter Try.func13, Try.ntmps13
    go_wp2_with fail
    refine (head_any w).mono ?_
    rintro e w1 ⟨rfl, hb0⟩
    have hb := hb0
    replace HB := Lib.hid (Below.on HB.out hb)
    replace Ha := Lib.hid (Ha.out.below hb)
    replace Hb := Lib.hid (Hb.out.below hb)
    replace Hc := Lib.hid (Hc.out.below hb)
    clear hb
    clear hb0
    have ql := long_any w1 Aa na ca (Nat.le_trans ya xa)
    rw [decide_eq_false hla] at ql
    go_wp2_with fail
    refine ql.mono ?_
    rintro e wl ⟨rfl, hwl⟩
    rw [hwl]
    clear ql hwl wl
    have ql := long_any w1 Ab nb cb (Nat.le_trans yb xb)
    rw [decide_eq_true hlb] at ql
    go_wp2_with fail
    refine ql.mono ?_
    rintro e wl ⟨rfl, hwl⟩
    rw [hwl]
    clear ql hwl wl
    go_wp2_with fail
    go_ret
    exact ⟨rfl, HB.out⟩
  by_cases hlc : 2000 < nc
  · skip
    go_enter Try.func13, Try.ntmps13
    go_wp2_with fail
    refine (head_any w).mono ?_
    rintro e w1 ⟨rfl, hb0⟩
    have hb := hb0
    replace HB := Lib.hid (Below.on HB.out hb)
    replace Ha := Lib.hid (Ha.out.below hb)
    replace Hb := Lib.hid (Hb.out.below hb)
    replace Hc := Lib.hid (Hc.out.below hb)
    clear hb
    clear hb0
    have ql := long_any w1 Aa na ca (Nat.le_trans ya xa)
    rw [decide_eq_false hla] at ql
    go_wp2_with fail
    refine ql.mono ?_
    rintro e wl ⟨rfl, hwl⟩
    rw [hwl]
    clear ql hwl wl
    have ql := long_any w1 Ab nb cb (Nat.le_trans yb xb)
    rw [decide_eq_false hlb] at ql
    go_wp2_with fail
    refine ql.mono ?_
    rintro e wl ⟨rfl, hwl⟩
    rw [hwl]
    clear ql hwl wl
    have ql := long_any w1 Ac nc cc (Nat.le_trans yc xc)
    rw [decide_eq_true hlc] at ql
    go_wp2_with fail
    refine ql.mono ?_
    rintro e wl ⟨rfl, hwl⟩
    rw [hwl]
    clear ql hwl wl
    go_wp2_with fail
    go_ret
    exact ⟨rfl, HB.out⟩
  go_enter Try.func13, Try.ntmps13
  go_wp2_with fail
  refine (head_any w).mono ?_
  rintro e w1 ⟨rfl, hb0⟩
  have hb := hb0
  replace HB := Lib.hid (Below.on HB.out hb)
  replace Ha := Lib.hid (Ha.out.below hb)
  replace Hb := Lib.hid (Hb.out.below hb)
  replace Hc := Lib.hid (Hc.out.below hb)
  clear hb
  clear hb0
  have ql := long_any w1 Aa na ca (Nat.le_trans ya xa)
  rw [decide_eq_false hla] at ql
  go_wp2_with fail
  refine ql.mono ?_
  rintro e wl ⟨rfl, hwl⟩
  rw [hwl]
  clear ql hwl wl
  have ql := long_any w1 Ab nb cb (Nat.le_trans yb xb)
  rw [decide_eq_false hlb] at ql
  go_wp2_with fail
  refine ql.mono ?_
  rintro e wl ⟨rfl, hwl⟩
  rw [hwl]
  clear ql hwl wl
  have ql := long_any w1 Ac nc cc (Nat.le_trans yc xc)
  rw [decide_eq_false hlc] at ql
  go_wp2_with fail
  refine ql.mono ?_
  rintro e wl ⟨rfl, hwl⟩
  rw [hwl]
  clear ql hwl wl
  have ka : na ≤ 2000 := by omega
  have kb : nb ≤ 2000 := by omega
  have kc : nc ≤ 2000 := by omega
  go_wp2_with fail
  refine (union_any Ha.out Hb.out (by omega) (by omega)).mono ?_
  rintro e w2 ⟨Ap1, np1, cp1, lp1, rfl, gp1⟩
  have hb := gp1.below
  replace HB := Lib.hid (Below.on HB.out hb)
  replace Ha := Lib.hid (Ha.out.below hb)
  replace Hb := Lib.hid (Hb.out.below hb)
  replace Hc := Lib.hid (Hc.out.below hb)
  clear hb
  have Hp1 := Lib.hid gp1.rg
  have Sp1 := so_or gp1.set Ma Mb
  have Mp1 := so_mm Sp1
  have zp1 := gp1.len
  have yp1 := gp1.small
  clear gp1
  go_wp2_with fail
  refine (union_any Hb.out Ha.out (by omega) (by omega)).mono ?_
  rintro e w3 ⟨Ap2, np2, cp2, lp2, rfl, gp2⟩
  have hb := gp2.below
  replace HB := Lib.hid (Below.on HB.out hb)
  replace Ha := Lib.hid (Ha.out.below hb)
  replace Hb := Lib.hid (Hb.out.below hb)
  replace Hc := Lib.hid (Hc.out.below hb)
  replace Hp1 := Lib.hid (Hp1.out.below hb)
  clear hb
  have Hp2 := Lib.hid gp2.rg
  have Sp2 := so_or gp2.set Mb Ma
  have Mp2 := so_mm Sp2
  have zp2 := gp2.len
  have yp2 := gp2.small
  clear gp2
  have he : lp1 = lp2 := Sp1.unique Sp2 (fun c _ _ => by by_cases q0 : mem la c <;> by_cases q1 : mem lb c <;> simp [q0, q1])
  go_wp2_with fail
  refine (same_yes Hp1.out Hp2.out he).mono ?_
  rintro e w4 ⟨rfl, hb0⟩
  have hb := hb0
  replace HB := Lib.hid (Below.on HB.out hb)
  replace Ha := Lib.hid (Ha.out.below hb)
  replace Hb := Lib.hid (Hb.out.below hb)
  replace Hc := Lib.hid (Hc.out.below hb)
  replace Hp1 := Lib.hid (Hp1.out.below hb)
  replace Hp2 := Lib.hid (Hp2.out.below hb)
  clear hb
  clear hb0 he
  clear Hp1
  clear Hp2
  go_wp2_with fail
  refine (meet_any Ha.out Hb.out (by omega) (by omega)).mono ?_
  rintro e w5 ⟨Ap3, np3, cp3, lp3, rfl, gp3⟩
  have hb := gp3.below
  replace HB := Lib.hid (Below.on HB.out hb)
  replace Ha := Lib.hid (Ha.out.below hb)
  replace Hb := Lib.hid (Hb.out.below hb)
  replace Hc := Lib.hid (Hc.out.below hb)
  clear hb
  have Hp3 := Lib.hid gp3.rg
  have Sp3 := so_and gp3.set Ma Mb
  have Mp3 := so_mm Sp3
  have zp3 := gp3.len
  have yp3 := gp3.small
  clear gp3
  go_wp2_with fail
  refine (meet_any Hb.out Ha.out (by omega) (by omega)).mono ?_
  rintro e w6 ⟨Ap4, np4, cp4, lp4, rfl, gp4⟩
  have hb := gp4.below
  replace HB := Lib.hid (Below.on HB.out hb)
  replace Ha := Lib.hid (Ha.out.below hb)
  replace Hb := Lib.hid (Hb.out.below hb)
  replace Hc := Lib.hid (Hc.out.below hb)
  replace Hp3 := Lib.hid (Hp3.out.below hb)
  clear hb
  have Hp4 := Lib.hid gp4.rg
  have Sp4 := so_and gp4.set Mb Ma
  have Mp4 := so_mm Sp4
  have zp4 := gp4.len
  have yp4 := gp4.small
  clear gp4
  have he : lp3 = lp4 := Sp3.unique Sp4 (fun c _ _ => by by_cases q0 : mem la c <;> by_cases q1 : mem lb c <;> simp [q0, q1])
  go_wp2_with fail
  refine (same_yes Hp3.out Hp4.out he).mono ?_
  rintro e w7 ⟨rfl, hb0⟩
  have hb := hb0
  replace HB := Lib.hid (Below.on HB.out hb)
  replace Ha := Lib.hid (Ha.out.below hb)
  replace Hb := Lib.hid (Hb.out.below hb)
  replace Hc := Lib.hid (Hc.out.below hb)
  replace Hp3 := Lib.hid (Hp3.out.below hb)
  replace Hp4 := Lib.hid (Hp4.out.below hb)
  clear hb
  clear hb0 he
  clear Hp3
  clear Hp4
  go_wp2_with fail
  refine (union_any Ha.out Hb.out (by omega) (by omega)).mono ?_
  rintro e w8 ⟨Aq1, nq1, cq1, lq1, rfl, gq1⟩
  have hb := gq1.below
  replace HB := Lib.hid (Below.on HB.out hb)
  replace Ha := Lib.hid (Ha.out.below hb)
  replace Hb := Lib.hid (Hb.out.below hb)
  replace Hc := Lib.hid (Hc.out.below hb)
  clear hb
  have Hq1 := Lib.hid gq1.rg
  have Sq1 := so_or gq1.set Ma Mb
  have Mq1 := so_mm Sq1
  have zq1 := gq1.len
  have yq1 := gq1.small
  clear gq1
  go_wp2_with fail
  refine (union_any Hq1.out Hc.out (by omega) (by omega)).mono ?_
  rintro e w9 ⟨Aq2, nq2, cq2, lq2, rfl, gq2⟩
  have hb := gq2.below
  replace HB := Lib.hid (Below.on HB.out hb)
  replace Ha := Lib.hid (Ha.out.below hb)
  replace Hb := Lib.hid (Hb.out.below hb)
  replace Hc := Lib.hid (Hc.out.below hb)
  replace Hq1 := Lib.hid (Hq1.out.below hb)
  clear hb
  have Hq2 := Lib.hid gq2.rg
  have Sq2 := so_or gq2.set Mq1 Mc
  have Mq2 := so_mm Sq2
  have zq2 := gq2.len
  have yq2 := gq2.small
  clear gq2
  go_wp2_with fail
  refine (union_any Hb.out Hc.out (by omega) (by omega)).mono ?_
  rintro e w10 ⟨Aq3, nq3, cq3, lq3, rfl, gq3⟩
  have hb := gq3.below
  replace HB := Lib.hid (Below.on HB.out hb)
  replace Ha := Lib.hid (Ha.out.below hb)
  replace Hb := Lib.hid (Hb.out.below hb)
  replace Hc := Lib.hid (Hc.out.below hb)
  replace Hq1 := Lib.hid (Hq1.out.below hb)
  replace Hq2 := Lib.hid (Hq2.out.below hb)
  clear hb
  have Hq3 := Lib.hid gq3.rg
  have Sq3 := so_or gq3.set Mb Mc
  have Mq3 := so_mm Sq3
  have zq3 := gq3.len
  have yq3 := gq3.small
  clear gq3
  go_wp2_with fail
  refine (union_any Ha.out Hq3.out (by omega) (by omega)).mono ?_
  rintro e w11 ⟨Aq4, nq4, cq4, lq4, rfl, gq4⟩
  have hb := gq4.below
  replace HB := Lib.hid (Below.on HB.out hb)
  replace Ha := Lib.hid (Ha.out.below hb)
  replace Hb := Lib.hid (Hb.out.below hb)
  replace Hc := Lib.hid (Hc.out.below hb)
  replace Hq1 := Lib.hid (Hq1.out.below hb)
  replace Hq2 := Lib.hid (Hq2.out.below hb)
  replace Hq3 := Lib.hid (Hq3.out.below hb)
  clear hb
  have Hq4 := Lib.hid gq4.rg
  have Sq4 := so_or gq4.set Ma Mq3
  have Mq4 := so_mm Sq4
  have zq4 := gq4.len
  have yq4 := gq4.small
  clear gq4
  have he : lq2 = lq4 := Sq2.unique Sq4 (fun c _ _ => by by_cases q0 : mem la c <;> by_cases q1 : mem lb c <;> by_cases q2 : mem lc c <;> simp [q0, q1, q2])
  go_wp2_with fail
  refine (same_yes Hq2.out Hq4.out he).mono ?_
  rintro e w12 ⟨rfl, hb0⟩
  have hb := hb0
  replace HB := Lib.hid (Below.on HB.out hb)
  replace Ha := Lib.hid (Ha.out.below hb)
  replace Hb := Lib.hid (Hb.out.below hb)
  replace Hc := Lib.hid (Hc.out.below hb)
  replace Hq1 := Lib.hid (Hq1.out.below hb)
  replace Hq2 := Lib.hid (Hq2.out.below hb)
  replace Hq3 := Lib.hid (Hq3.out.below hb)
  replace Hq4 := Lib.hid (Hq4.out.below hb)
  clear hb
  clear hb0 he
  clear Hq1
  clear Hq2
  clear Hq3
  clear Hq4
  go_wp2_with fail
  refine (meet_any Ha.out Hb.out (by omega) (by omega)).mono ?_
  rintro e w13 ⟨Ar1, nr1, cr1, lr1, rfl, gr1⟩
  have hb := gr1.below
  replace HB := Lib.hid (Below.on HB.out hb)
  replace Ha := Lib.hid (Ha.out.below hb)
  replace Hb := Lib.hid (Hb.out.below hb)
  replace Hc := Lib.hid (Hc.out.below hb)
  clear hb
  have Hr1 := Lib.hid gr1.rg
  have Sr1 := so_and gr1.set Ma Mb
  have Mr1 := so_mm Sr1
  have zr1 := gr1.len
  have yr1 := gr1.small
  clear gr1
  go_wp2_with fail
  refine (meet_any Hr1.out Hc.out (by omega) (by omega)).mono ?_
  rintro e w14 ⟨Ar2, nr2, cr2, lr2, rfl, gr2⟩
  have hb := gr2.below
  replace HB := Lib.hid (Below.on HB.out hb)
  replace Ha := Lib.hid (Ha.out.below hb)
  replace Hb := Lib.hid (Hb.out.below hb)
  replace Hc := Lib.hid (Hc.out.below hb)
  replace Hr1 := Lib.hid (Hr1.out.below hb)
  clear hb
  have Hr2 := Lib.hid gr2.rg
  have Sr2 := so_and gr2.set Mr1 Mc
  have Mr2 := so_mm Sr2
  have zr2 := gr2.len
  have yr2 := gr2.small
  clear gr2
  go_wp2_with fail
  refine (meet_any Hb.out Hc.out (by omega) (by omega)).mono ?_
  rintro e w15 ⟨Ar3, nr3, cr3, lr3, rfl, gr3⟩
  have hb := gr3.below
  replace HB := Lib.hid (Below.on HB.out hb)
  replace Ha := Lib.hid (Ha.out.below hb)
  replace Hb := Lib.hid (Hb.out.below hb)
  replace Hc := Lib.hid (Hc.out.below hb)
  replace Hr1 := Lib.hid (Hr1.out.below hb)
  replace Hr2 := Lib.hid (Hr2.out.below hb)
  clear hb
  have Hr3 := Lib.hid gr3.rg
  have Sr3 := so_and gr3.set Mb Mc
  have Mr3 := so_mm Sr3
  have zr3 := gr3.len
  have yr3 := gr3.small
  clear gr3
  go_wp2_with fail
  refine (meet_any Ha.out Hr3.out (by omega) (by omega)).mono ?_
  rintro e w16 ⟨Ar4, nr4, cr4, lr4, rfl, gr4⟩
  have hb := gr4.below
  replace HB := Lib.hid (Below.on HB.out hb)
  replace Ha := Lib.hid (Ha.out.below hb)
  replace Hb := Lib.hid (Hb.out.below hb)
  replace Hc := Lib.hid (Hc.out.below hb)
  replace Hr1 := Lib.hid (Hr1.out.below hb)
  replace Hr2 := Lib.hid (Hr2.out.below hb)
  replace Hr3 := Lib.hid (Hr3.out.below hb)
  clear hb
  have Hr4 := Lib.hid gr4.rg
  have Sr4 := so_and gr4.set Ma Mr3
  have Mr4 := so_mm Sr4
  have zr4 := gr4.len
  have yr4 := gr4.small
  clear gr4
  have he : lr2 = lr4 := Sr2.unique Sr4 (fun c _ _ => by by_cases q0 : mem la c <;> by_cases q1 : mem lb c <;> by_cases q2 : mem lc c <;> simp [q0, q1, q2])
  go_wp2_with fail
  refine (same_yes Hr2.out Hr4.out he).mono ?_
  rintro e w17 ⟨rfl, hb0⟩
  have hb := hb0
  replace HB := Lib.hid (Below.on HB.out hb)
  replace Ha := Lib.hid (Ha.out.below hb)
  replace Hb := Lib.hid (Hb.out.below hb)
  replace Hc := Lib.hid (Hc.out.below hb)
  replace Hr1 := Lib.hid (Hr1.out.below hb)
  replace Hr2 := Lib.hid (Hr2.out.below hb)
  replace Hr3 := Lib.hid (Hr3.out.below hb)
  replace Hr4 := Lib.hid (Hr4.out.below hb)
  clear hb
  clear hb0 he
  clear Hr1
  clear Hr2
  clear Hr3
  clear Hr4
  go_wp2_with fail
  refine (union_any Ha.out Hb.out (by omega) (by omega)).mono ?_
  rintro e w18 ⟨As1, ns1, cs1, ls1, rfl, gs1⟩
  have hb := gs1.below
  replace HB := Lib.hid (Below.on HB.out hb)
  replace Ha := Lib.hid (Ha.out.below hb)
  replace Hb := Lib.hid (Hb.out.below hb)
  replace Hc := Lib.hid (Hc.out.below hb)
  clear hb
  have Hs1 := Lib.hid gs1.rg
  have Ss1 := so_or gs1.set Ma Mb
  have Ms1 := so_mm Ss1
  have zs1 := gs1.len
  have ys1 := gs1.small
  clear gs1
  go_wp2_with fail
  refine (meet_any Hs1.out Hc.out (by omega) (by omega)).mono ?_
  rintro e w19 ⟨As2, ns2, cs2, ls2, rfl, gs2⟩
  have hb := gs2.below
  replace HB := Lib.hid (Below.on HB.out hb)
  replace Ha := Lib.hid (Ha.out.below hb)
  replace Hb := Lib.hid (Hb.out.below hb)
  replace Hc := Lib.hid (Hc.out.below hb)
  replace Hs1 := Lib.hid (Hs1.out.below hb)
  clear hb
  have Hs2 := Lib.hid gs2.rg
  have Ss2 := so_and gs2.set Ms1 Mc
  have Ms2 := so_mm Ss2
  have zs2 := gs2.len
  have ys2 := gs2.small
  clear gs2
  go_wp2_with fail
  refine (meet_any Ha.out Hc.out (by omega) (by omega)).mono ?_
  rintro e w20 ⟨As3, ns3, cs3, ls3, rfl, gs3⟩
  have hb := gs3.below
  replace HB := Lib.hid (Below.on HB.out hb)
  replace Ha := Lib.hid (Ha.out.below hb)
  replace Hb := Lib.hid (Hb.out.below hb)
  replace Hc := Lib.hid (Hc.out.below hb)
  replace Hs1 := Lib.hid (Hs1.out.below hb)
  replace Hs2 := Lib.hid (Hs2.out.below hb)
  clear hb
  have Hs3 := Lib.hid gs3.rg
  have Ss3 := so_and gs3.set Ma Mc
  have Ms3 := so_mm Ss3
  have zs3 := gs3.len
  have ys3 := gs3.small
  clear gs3
  go_wp2_with fail
  refine (meet_any Hb.out Hc.out (by omega) (by omega)).mono ?_
  rintro e w21 ⟨As4, ns4, cs4, ls4, rfl, gs4⟩
  have hb := gs4.below
  replace HB := Lib.hid (Below.on HB.out hb)
  replace Ha := Lib.hid (Ha.out.below hb)
  replace Hb := Lib.hid (Hb.out.below hb)
  replace Hc := Lib.hid (Hc.out.below hb)
  replace Hs1 := Lib.hid (Hs1.out.below hb)
  replace Hs2 := Lib.hid (Hs2.out.below hb)
  replace Hs3 := Lib.hid (Hs3.out.below hb)
  clear hb
  have Hs4 := Lib.hid gs4.rg
  have Ss4 := so_and gs4.set Mb Mc
  have Ms4 := so_mm Ss4
  have zs4 := gs4.len
  have ys4 := gs4.small
  clear gs4
  go_wp2_with fail
  refine (union_any Hs3.out Hs4.out (by omega) (by omega)).mono ?_
  rintro e w22 ⟨As5, ns5, cs5, ls5, rfl, gs5⟩
  have hb := gs5.below
  replace HB := Lib.hid (Below.on HB.out hb)
  replace Ha := Lib.hid (Ha.out.below hb)
  replace Hb := Lib.hid (Hb.out.below hb)
  replace Hc := Lib.hid (Hc.out.below hb)
  replace Hs1 := Lib.hid (Hs1.out.below hb)
  replace Hs2 := Lib.hid (Hs2.out.below hb)
  replace Hs3 := Lib.hid (Hs3.out.below hb)
  replace Hs4 := Lib.hid (Hs4.out.below hb)
  clear hb
  have Hs5 := Lib.hid gs5.rg
  have Ss5 := so_or gs5.set Ms3 Ms4
  have Ms5 := so_mm Ss5
  have zs5 := gs5.len
  have ys5 := gs5.small
  clear gs5
  have he : ls2 = ls5 := Ss2.unique Ss5 (fun c _ _ => by by_cases q0 : mem la c <;> by_cases q1 : mem lb c <;> by_cases q2 : mem lc c <;> simp [q0, q1, q2])
  go_wp2_with fail
  refine (same_yes Hs2.out Hs5.out he).mono ?_
  rintro e w23 ⟨rfl, hb0⟩
  have hb := hb0
  replace HB := Lib.hid (Below.on HB.out hb)
  replace Ha := Lib.hid (Ha.out.below hb)
  replace Hb := Lib.hid (Hb.out.below hb)
  replace Hc := Lib.hid (Hc.out.below hb)
  replace Hs1 := Lib.hid (Hs1.out.below hb)
  replace Hs2 := Lib.hid (Hs2.out.below hb)
  replace Hs3 := Lib.hid (Hs3.out.below hb)
  replace Hs4 := Lib.hid (Hs4.out.below hb)
  replace Hs5 := Lib.hid (Hs5.out.below hb)
  clear hb
  clear hb0 he
  clear Hs1
  clear Hs2
  clear Hs3
  clear Hs4
  clear Hs5
  go_wp2_with fail
  refine (union_any Ha.out Ha.out (by omega) (by omega)).mono ?_
  rintro e w24 ⟨At1, nt1, ct1, lt1, rfl, gt1⟩
  have hb := gt1.below
  replace HB := Lib.hid (Below.on HB.out hb)
  replace Ha := Lib.hid (Ha.out.below hb)
  replace Hb := Lib.hid (Hb.out.below hb)
  replace Hc := Lib.hid (Hc.out.below hb)
  clear hb
  have Ht1 := Lib.hid gt1.rg
  have St1 := so_or gt1.set Ma Ma
  have Mt1 := so_mm St1
  have zt1 := gt1.len
  have yt1 := gt1.small
  clear gt1
  go_wp2_with fail
  refine (norm_any Ha.out (by omega)).mono ?_
  rintro e w25 ⟨At2, nt2, ct2, lt2, rfl, gt2⟩
  have hb := gt2.below
  replace HB := Lib.hid (Below.on HB.out hb)
  replace Ha := Lib.hid (Ha.out.below hb)
  replace Hb := Lib.hid (Hb.out.below hb)
  replace Hc := Lib.hid (Hc.out.below hb)
  replace Ht1 := Lib.hid (Ht1.out.below hb)
  clear hb
  have Ht2 := Lib.hid gt2.rg
  have St2 := so_norm gt2.set Ma
  have Mt2 := so_mm St2
  have zt2 := gt2.len
  have yt2 := gt2.small
  clear gt2
  have he : lt1 = lt2 := St1.unique St2 (fun c _ _ => by by_cases q0 : mem la c <;> simp [q0])
  go_wp2_with fail
  refine (same_yes Ht1.out Ht2.out he).mono ?_
  rintro e w26 ⟨rfl, hb0⟩
  have hb := hb0
  replace HB := Lib.hid (Below.on HB.out hb)
  replace Ha := Lib.hid (Ha.out.below hb)
  replace Hb := Lib.hid (Hb.out.below hb)
  replace Hc := Lib.hid (Hc.out.below hb)
  replace Ht1 := Lib.hid (Ht1.out.below hb)
  replace Ht2 := Lib.hid (Ht2.out.below hb)
  clear hb
  clear hb0 he
  clear Ht1
  clear Ht2
  go_wp2_with fail
  refine (meet_any Ha.out Ha.out (by omega) (by omega)).mono ?_
  rintro e w27 ⟨Au1, nu1, cu1, lu1, rfl, gu1⟩
  have hb := gu1.below
  replace HB := Lib.hid (Below.on HB.out hb)
  replace Ha := Lib.hid (Ha.out.below hb)
  replace Hb := Lib.hid (Hb.out.below hb)
  replace Hc := Lib.hid (Hc.out.below hb)
  clear hb
  have Hu1 := Lib.hid gu1.rg
  have Su1 := so_and gu1.set Ma Ma
  have Mu1 := so_mm Su1
  have zu1 := gu1.len
  have yu1 := gu1.small
  clear gu1
  go_wp2_with fail
  refine (norm_any Ha.out (by omega)).mono ?_
  rintro e w28 ⟨Au2, nu2, cu2, lu2, rfl, gu2⟩
  have hb := gu2.below
  replace HB := Lib.hid (Below.on HB.out hb)
  replace Ha := Lib.hid (Ha.out.below hb)
  replace Hb := Lib.hid (Hb.out.below hb)
  replace Hc := Lib.hid (Hc.out.below hb)
  replace Hu1 := Lib.hid (Hu1.out.below hb)
  clear hb
  have Hu2 := Lib.hid gu2.rg
  have Su2 := so_norm gu2.set Ma
  have Mu2 := so_mm Su2
  have zu2 := gu2.len
  have yu2 := gu2.small
  clear gu2
  have he : lu1 = lu2 := Su1.unique Su2 (fun c _ _ => by by_cases q0 : mem la c <;> simp [q0])
  go_wp2_with fail
  refine (same_yes Hu1.out Hu2.out he).mono ?_
  rintro e w29 ⟨rfl, hb0⟩
  have hb := hb0
  replace HB := Lib.hid (Below.on HB.out hb)
  replace Ha := Lib.hid (Ha.out.below hb)
  replace Hb := Lib.hid (Hb.out.below hb)
  replace Hc := Lib.hid (Hc.out.below hb)
  replace Hu1 := Lib.hid (Hu1.out.below hb)
  replace Hu2 := Lib.hid (Hu2.out.below hb)
  clear hb
  clear hb0 he
  go_wp2_with fail
  go_ret
  exact ⟨rfl, HB.out⟩

end Go.Proofs.Ytoglnankopdohaa
