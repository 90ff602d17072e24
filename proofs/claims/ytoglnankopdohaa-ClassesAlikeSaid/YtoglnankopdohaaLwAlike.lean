/- ClassesAlike: the walk. -/
import Derived.Test.YtoglnankopdohaaCl3
namespace Go.Proofs.Ytoglnankopdohaa
open Go.RowKit

theorem told_not {b : Bool} {l : List Rg} {w : World} {B : Option Addr} {m d : Nat} {s : List Rg} {w' : World} (h : Told b l w B m d s w') (hb : b = false) : Told false l w B m d s w' := by rw [hb] at h; exact h
theorem al1 (c : Int) : hasB px_alnum c = (hasB px_alpha c || hasB px_digit c) := by
  rw [Bool.eq_iff_iff, Bool.or_eq_true, hasB_iff, hasB_iff, hasB_iff]
  simp only [px_alnum, px_alpha, px_digit, mem_cons, mem_nil, or_false]
  unfold maxR; omega
theorem al2 (c : Int) : hasB px_graph c = (hasB px_alpha c || hasB px_digit c || hasB px_punct c) := by
  rw [Bool.eq_iff_iff, Bool.or_eq_true, Bool.or_eq_true, hasB_iff, hasB_iff, hasB_iff, hasB_iff]
  simp only [px_graph, px_alpha, px_digit, px_punct, mem_cons, mem_nil, or_false]
  unfold maxR; omega
theorem al3 (c : Int) : hasB px_word c = (hasB px_alpha c || hasB px_digit c || (c == 95)) := by
  rw [Bool.eq_iff_iff, Bool.or_eq_true, Bool.or_eq_true, hasB_iff, hasB_iff, hasB_iff, beq_iff_eq]
  simp only [px_word, px_alpha, px_digit, mem_cons, mem_nil, or_false]
  unfold maxR; omega

set_option maxRecDepth 20000 in
set_option maxHeartbeats 8000000 in
theorem classesAlike_walk {w : World} (x : Int) :
    Calls Try.prog 18 #[.int .i32 x] w fun e w' => e = .returned (.bool true) ∧ Below w.heap.size w w' := by
  have HB := Lib.hid (Below.refl w.heap.size w)
  go_enter Try.func18, Try.ntmps18
  go_wp2_with fail
  refine (head4_any w).mono ?_
  rintro e w1 ⟨rfl, hb0⟩
  have hb := hb0
  replace HB := Lib.hid (Below.on HB.out hb)
  clear hb
  clear hb0
  go_wp2_with fail
  refine (perl_119 w1).mono ?_
  rintro e w2 ⟨Aw, nw, cw, lw, rfl, gw⟩
  have hb := gw.below
  replace HB := Lib.hid (Below.on HB.out hb)
  clear hb
  have ew := told_plain gw perlW_ok
  subst ew
  have Hw := Lib.hid gw.rg
  clear gw
  go_wp2_with fail
  refine ((posix_word ⟨#[119, 111, 114, 100]⟩ w2 (by decide)).mono (R' := fun e w' => ∃ B m d r, e = .returned (.tuple #[.slice B m d, .bool true]) ∧ Told false px_word w2 B m d r w') (fun _ _ ⟨B, m, d, r, he, ht⟩ => ⟨B, m, d, r, he, told_not ht (by decide)⟩)).mono ?_
  rintro e w3 ⟨Aword, nword, cword, lword, rfl, gword⟩
  have hb := gword.below
  replace HB := Lib.hid (Below.on HB.out hb)
  replace Hw := Lib.hid (Hw.out.below hb)
  clear hb
  have eword := told_plain gword px_word_ok
  subst eword
  have Hword := Lib.hid gword.rg
  clear gword
  go_wp2_with fail
  refine (perl_100 w3).mono ?_
  rintro e w4 ⟨Ad, nd, cd, ld, rfl, gd⟩
  have hb := gd.below
  replace HB := Lib.hid (Below.on HB.out hb)
  replace Hw := Lib.hid (Hw.out.below hb)
  replace Hword := Lib.hid (Hword.out.below hb)
  clear hb
  have ed := told_plain gd perlD_ok
  subst ed
  have Hd := Lib.hid gd.rg
  clear gd
  go_wp2_with fail
  refine ((posix_digit ⟨#[100, 105, 103, 105, 116]⟩ w4 (by decide)).mono (R' := fun e w' => ∃ B m d r, e = .returned (.tuple #[.slice B m d, .bool true]) ∧ Told false px_digit w4 B m d r w') (fun _ _ ⟨B, m, d, r, he, ht⟩ => ⟨B, m, d, r, he, told_not ht (by decide)⟩)).mono ?_
  rintro e w5 ⟨Adigit, ndigit, cdigit, ldigit, rfl, gdigit⟩
  have hb := gdigit.below
  replace HB := Lib.hid (Below.on HB.out hb)
  replace Hw := Lib.hid (Hw.out.below hb)
  replace Hword := Lib.hid (Hword.out.below hb)
  replace Hd := Lib.hid (Hd.out.below hb)
  clear hb
  have edigit := told_plain gdigit px_digit_ok
  subst edigit
  have Hdigit := Lib.hid gdigit.rg
  clear gdigit
  go_wp2_with fail
  refine ((posix_alnum ⟨#[97, 108, 110, 117, 109]⟩ w5 (by decide)).mono (R' := fun e w' => ∃ B m d r, e = .returned (.tuple #[.slice B m d, .bool true]) ∧ Told false px_alnum w5 B m d r w') (fun _ _ ⟨B, m, d, r, he, ht⟩ => ⟨B, m, d, r, he, told_not ht (by decide)⟩)).mono ?_
  rintro e w6 ⟨Aalnum, nalnum, calnum, lalnum, rfl, galnum⟩
  have hb := galnum.below
  replace HB := Lib.hid (Below.on HB.out hb)
  replace Hw := Lib.hid (Hw.out.below hb)
  replace Hword := Lib.hid (Hword.out.below hb)
  replace Hd := Lib.hid (Hd.out.below hb)
  replace Hdigit := Lib.hid (Hdigit.out.below hb)
  clear hb
  have ealnum := told_plain galnum px_alnum_ok
  subst ealnum
  have Halnum := Lib.hid galnum.rg
  clear galnum
  go_wp2_with fail
  refine ((posix_alpha ⟨#[97, 108, 112, 104, 97]⟩ w6 (by decide)).mono (R' := fun e w' => ∃ B m d r, e = .returned (.tuple #[.slice B m d, .bool true]) ∧ Told false px_alpha w6 B m d r w') (fun _ _ ⟨B, m, d, r, he, ht⟩ => ⟨B, m, d, r, he, told_not ht (by decide)⟩)).mono ?_
  rintro e w7 ⟨Aalpha, nalpha, calpha, lalpha, rfl, galpha⟩
  have hb := galpha.below
  replace HB := Lib.hid (Below.on HB.out hb)
  replace Hw := Lib.hid (Hw.out.below hb)
  replace Hword := Lib.hid (Hword.out.below hb)
  replace Hd := Lib.hid (Hd.out.below hb)
  replace Hdigit := Lib.hid (Hdigit.out.below hb)
  replace Halnum := Lib.hid (Halnum.out.below hb)
  clear hb
  have ealpha := told_plain galpha px_alpha_ok
  subst ealpha
  have Halpha := Lib.hid galpha.rg
  clear galpha
  go_wp2_with fail
  refine ((posix_graph ⟨#[103, 114, 97, 112, 104]⟩ w7 (by decide)).mono (R' := fun e w' => ∃ B m d r, e = .returned (.tuple #[.slice B m d, .bool true]) ∧ Told false px_graph w7 B m d r w') (fun _ _ ⟨B, m, d, r, he, ht⟩ => ⟨B, m, d, r, he, told_not ht (by decide)⟩)).mono ?_
  rintro e w8 ⟨Agraph, ngraph, cgraph, lgraph, rfl, ggraph⟩
  have hb := ggraph.below
  replace HB := Lib.hid (Below.on HB.out hb)
  replace Hw := Lib.hid (Hw.out.below hb)
  replace Hword := Lib.hid (Hword.out.below hb)
  replace Hd := Lib.hid (Hd.out.below hb)
  replace Hdigit := Lib.hid (Hdigit.out.below hb)
  replace Halnum := Lib.hid (Halnum.out.below hb)
  replace Halpha := Lib.hid (Halpha.out.below hb)
  clear hb
  have egraph := told_plain ggraph px_graph_ok
  subst egraph
  have Hgraph := Lib.hid ggraph.rg
  clear ggraph
  go_wp2_with fail
  refine ((posix_punct ⟨#[112, 117, 110, 99, 116]⟩ w8 (by decide)).mono (R' := fun e w' => ∃ B m d r, e = .returned (.tuple #[.slice B m d, .bool true]) ∧ Told false px_punct w8 B m d r w') (fun _ _ ⟨B, m, d, r, he, ht⟩ => ⟨B, m, d, r, he, told_not ht (by decide)⟩)).mono ?_
  rintro e w9 ⟨Apunct, npunct, cpunct, lpunct, rfl, gpunct⟩
  have hb := gpunct.below
  replace HB := Lib.hid (Below.on HB.out hb)
  replace Hw := Lib.hid (Hw.out.below hb)
  replace Hword := Lib.hid (Hword.out.below hb)
  replace Hd := Lib.hid (Hd.out.below hb)
  replace Hdigit := Lib.hid (Hdigit.out.below hb)
  replace Halnum := Lib.hid (Halnum.out.below hb)
  replace Halpha := Lib.hid (Halpha.out.below hb)
  replace Hgraph := Lib.hid (Hgraph.out.below hb)
  clear hb
  have epunct := told_plain gpunct px_punct_ok
  subst epunct
  have Hpunct := Lib.hid gpunct.rg
  clear gpunct
  go_wp2_with fail
  refine (same_yes Hw.out Hword.out rfl).mono ?_
  rintro e w10 ⟨rfl, hb0⟩
  have hb := hb0
  replace HB := Lib.hid (Below.on HB.out hb)
  replace Hw := Lib.hid (Hw.out.below hb)
  replace Hword := Lib.hid (Hword.out.below hb)
  replace Hd := Lib.hid (Hd.out.below hb)
  replace Hdigit := Lib.hid (Hdigit.out.below hb)
  replace Halnum := Lib.hid (Halnum.out.below hb)
  replace Halpha := Lib.hid (Halpha.out.below hb)
  replace Hgraph := Lib.hid (Hgraph.out.below hb)
  replace Hpunct := Lib.hid (Hpunct.out.below hb)
  clear hb
  clear hb0
  go_wp2_with fail
  refine (same_yes Hd.out Hdigit.out rfl).mono ?_
  rintro e w11 ⟨rfl, hb0⟩
  have hb := hb0
  replace HB := Lib.hid (Below.on HB.out hb)
  replace Hw := Lib.hid (Hw.out.below hb)
  replace Hword := Lib.hid (Hword.out.below hb)
  replace Hd := Lib.hid (Hd.out.below hb)
  replace Hdigit := Lib.hid (Hdigit.out.below hb)
  replace Halnum := Lib.hid (Halnum.out.below hb)
  replace Halpha := Lib.hid (Halpha.out.below hb)
  replace Hgraph := Lib.hid (Hgraph.out.below hb)
  replace Hpunct := Lib.hid (Hpunct.out.below hb)
  clear hb
  clear hb0
  obtain ⟨r1, hr1⟩ : ∃ r, hasB px_alpha x = r := ⟨_, rfl⟩
  obtain ⟨r2, hr2⟩ : ∃ r, hasB px_digit x = r := ⟨_, rfl⟩
  obtain ⟨r3, hr3⟩ : ∃ r, hasB px_punct x = r := ⟨_, rfl⟩
  have talnum := refHas_any Halnum.out x
  rw [al1, hr1, hr2] at talnum
  have talpha := refHas_any Halpha.out x
  rw [hr1] at talpha
  have tdigit := refHas_any Hdigit.out x
  rw [hr2] at tdigit
  have tgraph := refHas_any Hgraph.out x
  rw [al2, hr1, hr2, hr3] at tgraph
  have tpunct := refHas_any Hpunct.out x
  rw [hr3] at tpunct
  have tword := refHas_any Hword.out x
  rw [al3, hr1, hr2] at tword
  clear hr1 hr2 hr3 Hw Hword Hd Hdigit Halnum Halpha Hgraph Hpunct
  have hx : (x == 95) = true ∨ (x == 95) = false := by cases (x == 95) <;> simp
  rcases hx with hx | hx <;> rw [hx] at tword <;> cases r1 <;> cases r2 <;> cases r3
  all_goals simp only [Bool.or_true, Bool.true_or, Bool.or_false, Bool.false_or, Bool.or_self] at talnum talpha tdigit tgraph tpunct tword
  · skip
    go_wp2_with fail
    refine talnum.mono ?_
    rintro e _ ⟨rfl, rfl⟩
    go_wp2_with fail
    refine talpha.mono ?_
    rintro e _ ⟨rfl, rfl⟩
    go_wp2_with fail
    refine tdigit.mono ?_
    rintro e _ ⟨rfl, rfl⟩
    go_wp2_with fail
    refine tgraph.mono ?_
    rintro e _ ⟨rfl, rfl⟩
    go_wp2_with fail
    refine talnum.mono ?_
    rintro e _ ⟨rfl, rfl⟩
    go_wp2_with fail
    refine tpunct.mono ?_
    rintro e _ ⟨rfl, rfl⟩
    go_wp2_with fail
    refine tword.mono ?_
    rintro e _ ⟨rfl, rfl⟩
    go_wp2_with fail
    refine talnum.mono ?_
    rintro e _ ⟨rfl, rfl⟩
    go_wp2_with fail
    go_ret
    exact ⟨rfl, HB.out⟩
  · skip
    go_wp2_with fail
    refine talnum.mono ?_
    rintro e _ ⟨rfl, rfl⟩
    go_wp2_with fail
    refine talpha.mono ?_
    rintro e _ ⟨rfl, rfl⟩
    go_wp2_with fail
    refine tdigit.mono ?_
    rintro e _ ⟨rfl, rfl⟩
    go_wp2_with fail
    refine tgraph.mono ?_
    rintro e _ ⟨rfl, rfl⟩
    go_wp2_with fail
    refine talnum.mono ?_
    rintro e _ ⟨rfl, rfl⟩
    go_wp2_with fail
    refine tpunct.mono ?_
    rintro e _ ⟨rfl, rfl⟩
    go_wp2_with fail
    refine tword.mono ?_
    rintro e _ ⟨rfl, rfl⟩
    go_wp2_with fail
    refine talnum.mono ?_
    rintro e _ ⟨rfl, rfl⟩
    go_wp2_with fail
    go_ret
    exact ⟨rfl, HB.out⟩
  · skip
    go_wp2_with fail
    refine talnum.mono ?_
    rintro e _ ⟨rfl, rfl⟩
    go_wp2_with fail
    refine talpha.mono ?_
    rintro e _ ⟨rfl, rfl⟩
    go_wp2_with fail
    refine tdigit.mono ?_
    rintro e _ ⟨rfl, rfl⟩
    go_wp2_with fail
    refine tgraph.mono ?_
    rintro e _ ⟨rfl, rfl⟩
    go_wp2_with fail
    refine talnum.mono ?_
    rintro e _ ⟨rfl, rfl⟩
    go_wp2_with fail
    refine tword.mono ?_
    rintro e _ ⟨rfl, rfl⟩
    go_wp2_with fail
    refine talnum.mono ?_
    rintro e _ ⟨rfl, rfl⟩
    go_wp2_with fail
    go_ret
    exact ⟨rfl, HB.out⟩
  · skip
    go_wp2_with fail
    refine talnum.mono ?_
    rintro e _ ⟨rfl, rfl⟩
    go_wp2_with fail
    refine talpha.mono ?_
    rintro e _ ⟨rfl, rfl⟩
    go_wp2_with fail
    refine tdigit.mono ?_
    rintro e _ ⟨rfl, rfl⟩
    go_wp2_with fail
    refine tgraph.mono ?_
    rintro e _ ⟨rfl, rfl⟩
    go_wp2_with fail
    refine talnum.mono ?_
    rintro e _ ⟨rfl, rfl⟩
    go_wp2_with fail
    refine tword.mono ?_
    rintro e _ ⟨rfl, rfl⟩
    go_wp2_with fail
    refine talnum.mono ?_
    rintro e _ ⟨rfl, rfl⟩
    go_wp2_with fail
    go_ret
    exact ⟨rfl, HB.out⟩
  · skip
    go_wp2_with fail
    refine talnum.mono ?_
    rintro e _ ⟨rfl, rfl⟩
    go_wp2_with fail
    refine talpha.mono ?_
    rintro e _ ⟨rfl, rfl⟩
    go_wp2_with fail
    refine tgraph.mono ?_
    rintro e _ ⟨rfl, rfl⟩
    go_wp2_with fail
    refine talnum.mono ?_
    rintro e _ ⟨rfl, rfl⟩
    go_wp2_with fail
    refine tword.mono ?_
    rintro e _ ⟨rfl, rfl⟩
    go_wp2_with fail
    refine talnum.mono ?_
    rintro e _ ⟨rfl, rfl⟩
    go_wp2_with fail
    go_ret
    exact ⟨rfl, HB.out⟩
  · skip
    go_wp2_with fail
    refine talnum.mono ?_
    rintro e _ ⟨rfl, rfl⟩
    go_wp2_with fail
    refine talpha.mono ?_
    rintro e _ ⟨rfl, rfl⟩
    go_wp2_with fail
    refine tgraph.mono ?_
    rintro e _ ⟨rfl, rfl⟩
    go_wp2_with fail
    refine talnum.mono ?_
    rintro e _ ⟨rfl, rfl⟩
    go_wp2_with fail
    refine tword.mono ?_
    rintro e _ ⟨rfl, rfl⟩
    go_wp2_with fail
    refine talnum.mono ?_
    rintro e _ ⟨rfl, rfl⟩
    go_wp2_with fail
    go_ret
    exact ⟨rfl, HB.out⟩
  · skip
    go_wp2_with fail
    refine talnum.mono ?_
    rintro e _ ⟨rfl, rfl⟩
    go_wp2_with fail
    refine talpha.mono ?_
    rintro e _ ⟨rfl, rfl⟩
    go_wp2_with fail
    refine tgraph.mono ?_
    rintro e _ ⟨rfl, rfl⟩
    go_wp2_with fail
    refine talnum.mono ?_
    rintro e _ ⟨rfl, rfl⟩
    go_wp2_with fail
    refine tword.mono ?_
    rintro e _ ⟨rfl, rfl⟩
    go_wp2_with fail
    refine talnum.mono ?_
    rintro e _ ⟨rfl, rfl⟩
    go_wp2_with fail
    go_ret
    exact ⟨rfl, HB.out⟩
  · skip
    go_wp2_with fail
    refine talnum.mono ?_
    rintro e _ ⟨rfl, rfl⟩
    go_wp2_with fail
    refine talpha.mono ?_
    rintro e _ ⟨rfl, rfl⟩
    go_wp2_with fail
    refine tgraph.mono ?_
    rintro e _ ⟨rfl, rfl⟩
    go_wp2_with fail
    refine talnum.mono ?_
    rintro e _ ⟨rfl, rfl⟩
    go_wp2_with fail
    refine tword.mono ?_
    rintro e _ ⟨rfl, rfl⟩
    go_wp2_with fail
    refine talnum.mono ?_
    rintro e _ ⟨rfl, rfl⟩
    go_wp2_with fail
    go_ret
    exact ⟨rfl, HB.out⟩
  · skip
    go_wp2_with fail
    refine talnum.mono ?_
    rintro e _ ⟨rfl, rfl⟩
    go_wp2_with fail
    refine talpha.mono ?_
    rintro e _ ⟨rfl, rfl⟩
    go_wp2_with fail
    refine tdigit.mono ?_
    rintro e _ ⟨rfl, rfl⟩
    go_wp2_with fail
    refine tgraph.mono ?_
    rintro e _ ⟨rfl, rfl⟩
    go_wp2_with fail
    refine talnum.mono ?_
    rintro e _ ⟨rfl, rfl⟩
    go_wp2_with fail
    refine tpunct.mono ?_
    rintro e _ ⟨rfl, rfl⟩
    go_wp2_with fail
    refine tword.mono ?_
    rintro e _ ⟨rfl, rfl⟩
    go_wp2_with fail
    refine talnum.mono ?_
    rintro e _ ⟨rfl, rfl⟩
    go_wp2_with fail
    go_ret
    exact ⟨rfl, HB.out⟩
  · skip
    go_wp2_with fail
    refine talnum.mono ?_
    rintro e _ ⟨rfl, rfl⟩
    go_wp2_with fail
    refine talpha.mono ?_
    rintro e _ ⟨rfl, rfl⟩
    go_wp2_with fail
    refine tdigit.mono ?_
    rintro e _ ⟨rfl, rfl⟩
    go_wp2_with fail
    refine tgraph.mono ?_
    rintro e _ ⟨rfl, rfl⟩
    go_wp2_with fail
    refine talnum.mono ?_
    rintro e _ ⟨rfl, rfl⟩
    go_wp2_with fail
    refine tpunct.mono ?_
    rintro e _ ⟨rfl, rfl⟩
    go_wp2_with fail
    refine tword.mono ?_
    rintro e _ ⟨rfl, rfl⟩
    go_wp2_with fail
    refine talnum.mono ?_
    rintro e _ ⟨rfl, rfl⟩
    go_wp2_with fail
    go_ret
    exact ⟨rfl, HB.out⟩
  · skip
    go_wp2_with fail
    refine talnum.mono ?_
    rintro e _ ⟨rfl, rfl⟩
    go_wp2_with fail
    refine talpha.mono ?_
    rintro e _ ⟨rfl, rfl⟩
    go_wp2_with fail
    refine tdigit.mono ?_
    rintro e _ ⟨rfl, rfl⟩
    go_wp2_with fail
    refine tgraph.mono ?_
    rintro e _ ⟨rfl, rfl⟩
    go_wp2_with fail
    refine talnum.mono ?_
    rintro e _ ⟨rfl, rfl⟩
    go_wp2_with fail
    refine tword.mono ?_
    rintro e _ ⟨rfl, rfl⟩
    go_wp2_with fail
    refine talnum.mono ?_
    rintro e _ ⟨rfl, rfl⟩
    go_wp2_with fail
    go_ret
    exact ⟨rfl, HB.out⟩
  · skip
    go_wp2_with fail
    refine talnum.mono ?_
    rintro e _ ⟨rfl, rfl⟩
    go_wp2_with fail
    refine talpha.mono ?_
    rintro e _ ⟨rfl, rfl⟩
    go_wp2_with fail
    refine tdigit.mono ?_
    rintro e _ ⟨rfl, rfl⟩
    go_wp2_with fail
    refine tgraph.mono ?_
    rintro e _ ⟨rfl, rfl⟩
    go_wp2_with fail
    refine talnum.mono ?_
    rintro e _ ⟨rfl, rfl⟩
    go_wp2_with fail
    refine tword.mono ?_
    rintro e _ ⟨rfl, rfl⟩
    go_wp2_with fail
    refine talnum.mono ?_
    rintro e _ ⟨rfl, rfl⟩
    go_wp2_with fail
    go_ret
    exact ⟨rfl, HB.out⟩
  · skip
    go_wp2_with fail
    refine talnum.mono ?_
    rintro e _ ⟨rfl, rfl⟩
    go_wp2_with fail
    refine talpha.mono ?_
    rintro e _ ⟨rfl, rfl⟩
    go_wp2_with fail
    refine tgraph.mono ?_
    rintro e _ ⟨rfl, rfl⟩
    go_wp2_with fail
    refine talnum.mono ?_
    rintro e _ ⟨rfl, rfl⟩
    go_wp2_with fail
    refine tword.mono ?_
    rintro e _ ⟨rfl, rfl⟩
    go_wp2_with fail
    refine talnum.mono ?_
    rintro e _ ⟨rfl, rfl⟩
    go_wp2_with fail
    go_ret
    exact ⟨rfl, HB.out⟩
  · skip
    go_wp2_with fail
    refine talnum.mono ?_
    rintro e _ ⟨rfl, rfl⟩
    go_wp2_with fail
    refine talpha.mono ?_
    rintro e _ ⟨rfl, rfl⟩
    go_wp2_with fail
    refine tgraph.mono ?_
    rintro e _ ⟨rfl, rfl⟩
    go_wp2_with fail
    refine talnum.mono ?_
    rintro e _ ⟨rfl, rfl⟩
    go_wp2_with fail
    refine tword.mono ?_
    rintro e _ ⟨rfl, rfl⟩
    go_wp2_with fail
    refine talnum.mono ?_
    rintro e _ ⟨rfl, rfl⟩
    go_wp2_with fail
    go_ret
    exact ⟨rfl, HB.out⟩
  · skip
    go_wp2_with fail
    refine talnum.mono ?_
    rintro e _ ⟨rfl, rfl⟩
    go_wp2_with fail
    refine talpha.mono ?_
    rintro e _ ⟨rfl, rfl⟩
    go_wp2_with fail
    refine tgraph.mono ?_
    rintro e _ ⟨rfl, rfl⟩
    go_wp2_with fail
    refine talnum.mono ?_
    rintro e _ ⟨rfl, rfl⟩
    go_wp2_with fail
    refine tword.mono ?_
    rintro e _ ⟨rfl, rfl⟩
    go_wp2_with fail
    refine talnum.mono ?_
    rintro e _ ⟨rfl, rfl⟩
    go_wp2_with fail
    go_ret
    exact ⟨rfl, HB.out⟩
  · skip
    go_wp2_with fail
    refine talnum.mono ?_
    rintro e _ ⟨rfl, rfl⟩
    go_wp2_with fail
    refine talpha.mono ?_
    rintro e _ ⟨rfl, rfl⟩
    go_wp2_with fail
    refine tgraph.mono ?_
    rintro e _ ⟨rfl, rfl⟩
    go_wp2_with fail
    refine talnum.mono ?_
    rintro e _ ⟨rfl, rfl⟩
    go_wp2_with fail
    refine tword.mono ?_
    rintro e _ ⟨rfl, rfl⟩
    go_wp2_with fail
    refine talnum.mono ?_
    rintro e _ ⟨rfl, rfl⟩
    go_wp2_with fail
    go_ret
    exact ⟨rfl, HB.out⟩

end Go.Proofs.Ytoglnankopdohaa
