/- SetsNorm: the walk. -/
import Derived.Test.YtoglnankopdohaaRefS
namespace Go.Proofs.Ytoglnankopdohaa
open Go.RowKit

set_option maxRecDepth 20000 in
set_option maxHeartbeats 4000000 in
theorem setsNorm_walk {w : World} {Aa : Option Addr} {na ca : Nat} {la : List Rg} (ha : RgIn w Aa na ca la) (hsz : na * 8 ≤ 140737488351232)   :
    Calls Try.prog 8 #[.slice Aa na ca] w fun e w' => e = .returned (.bool true) ∧ Below w.heap.size w w' := by
  have Ma := Mm.raw la
  have xa := ha.max
  have ya := ha.le
  have za := ha.len
  have HB := Lib.hid (Below.refl w.heap.size w)
  have Ha := Lib.hid ha
  clear ha
  skip
  go_enter Try.func8, Try.ntmps8
  go_wp2_with fail
  refine (head_any w).mono ?_
  rintro e w1 ⟨rfl, hb0⟩
  have hb := hb0
  replace HB := Lib.hid (Below.on HB.out hb)
  replace Ha := Lib.hid (Ha.out.below hb)
  clear hb
  clear hb0
  have hmade := World.ownsRow_made (base := w1.heap.size) (size := 2) (e := 28) w1 #[] 0 (Nat.le_refl _) (Nat.zero_le _) rfl
  have hab0 := own_above' hmade
  have hba : Below w1.heap.size w1 (w1.alloc (.cells #[] 28)) := (Below.refl _ _).alloc (Nat.le_refl _) _
  have hR1 := (Ha.out.below hba).rd
  have hn1 := Ha.out.nil
  have hl1 : (rgCells la).length = na * 2 := by rw [rgCells_length, za]
  have h1e := rgCells_one la
  have hmx : 0 + na ≤ maxLen := by rw [Nat.zero_add]; exact Nat.le_trans ya xa
  have hbt : (0 + na) * 8 ≤ 140737488355328 := by omega
  go_upto_region 3 with (at_builtin; refine wpList_app _ rfl _ _ 23 rfl w1.heap.size 28 elG _ _ _ rfl hmade 0 _ Aa na ca (rgCells la) rfl hn1 hl1 hR1 h1e hmx hbt (by simp) ?_; intro v1 V1 hv1 hg1 _ _; obtain ⟨Ao, co, rfl, hd1, hd1'⟩ := own_form hv1)
  simp only [Nat.zero_add, List.nil_append] at hv1
  have hb : Below w1.heap.size w1 V1 := hba.grown hg1 (by simp) hab0
  replace HB := Lib.hid (Below.on HB.out hb)
  replace Ha := Lib.hid (Ha.out.below hb)
  have Ho := Lib.hid (RgIn.of_own hv1 za Ha.out.fits)
  clear hmade hab0 hba hR1 hn1 hl1 h1e hg1 hv1 hb
  have zo := za
  have Mo := Ma
  by_cases hla : 2000 < na
  · skip
    have ql := long_any V1 Aa na ca (Nat.le_trans ya xa)
    rw [decide_eq_true hla] at ql
    go_wp2_with fail
    refine ql.mono ?_
    rintro e wl ⟨rfl, hwl⟩
    rw [hwl]
    clear ql hwl wl
    go_wp2_with fail
    go_ret
    exact ⟨rfl, HB.out⟩
  · skip
    have ql := long_any V1 Aa na ca (Nat.le_trans ya xa)
    rw [decide_eq_false hla] at ql
    go_wp2_with fail
    refine ql.mono ?_
    rintro e wl ⟨rfl, hwl⟩
    rw [hwl]
    clear ql hwl wl
    generalize V1 = w2 at *
    have hno := norm_any Ho.out (by omega)
    go_wp2_with fail
    refine (hno).mono ?_
    rintro e w3 ⟨Ap, np, cp, lp, rfl, gp⟩
    have hb := gp.below
    replace HB := Lib.hid (Below.on HB.out hb)
    replace Ha := Lib.hid (Ha.out.below hb)
    replace Ho := Lib.hid (Ho.out.below hb)
    clear hb
    have Hp := Lib.hid gp.rg
    have Sp := so_norm gp.set Ma
    clear hno gp
    go_wp2_with fail
    refine (refNorm_got Ha.out (by omega)).mono ?_
    rintro e w4 ⟨Ar, nr, cr, lr, rfl, qr, gr⟩
    have hb := gr.below
    replace HB := Lib.hid (Below.on HB.out hb)
    replace Ha := Lib.hid (Ha.out.below hb)
    replace Ho := Lib.hid (Ho.out.below hb)
    replace Hp := Lib.hid (Hp.out.below hb)
    clear hb
    have Hr := Lib.hid gr.rg
    have Sr := so_norm gr.set Ma
    have Mr := so_mm Sr
    have zr := gr.len
    have yr := gr.small
    clear gr
    have he : lp = lr := Sp.unique Sr (fun _ _ _ => Iff.rfl)
    go_wp2_with fail
    refine (same_yes Hp.out Hr.out he).mono ?_
    rintro e w5 ⟨rfl, hb0⟩
    have hb := hb0
    replace HB := Lib.hid (Below.on HB.out hb)
    replace Ha := Lib.hid (Ha.out.below hb)
    replace Ho := Lib.hid (Ho.out.below hb)
    replace Hp := Lib.hid (Hp.out.below hb)
    replace Hr := Lib.hid (Hr.out.below hb)
    clear hb
    clear hb0 he
    go_wp2_with fail
    refine (same_yes Ho.out Ha.out rfl).mono ?_
    rintro e w6 ⟨rfl, hb0⟩
    have hb := hb0
    replace HB := Lib.hid (Below.on HB.out hb)
    replace Ha := Lib.hid (Ha.out.below hb)
    replace Ho := Lib.hid (Ho.out.below hb)
    replace Hp := Lib.hid (Hp.out.below hb)
    replace Hr := Lib.hid (Hr.out.below hb)
    clear hb
    clear hb0
    go_wp2_with fail
    go_ret
    exact ⟨rfl, HB.out⟩

end Go.Proofs.Ytoglnankopdohaa
