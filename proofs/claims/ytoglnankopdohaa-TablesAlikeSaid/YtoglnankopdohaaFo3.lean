/- TablesFolds, TablesAlike: the walks. -/
import Derived.Test.YtoglnankopdohaaFo2
namespace Go.Proofs.Ytoglnankopdohaa
open Go.RowKit

theorem orb_same {c y : Int} (hy : y ∈ orbR c) : orbR y = orbR c := by
  rcases orb_cases c with ⟨g, hg, hc, he⟩ | ⟨hn, ⟨hg, he⟩ | ⟨hg0, h32, hg, he⟩ | ⟨_, _, he⟩⟩
  · rw [he] at hy ⊢
    exact orbR_grp hg hy
  · rw [he] at hy ⊢
    simp only [List.mem_cons, List.not_mem_nil, or_false] at hy
    rcases hy with rfl | rfl
    · exact he
    · have hno : ∀ g ∈ G3, c + 32 ∉ g := fun g hg3 hm => by
        obtain ⟨s, hs, hu, h1, h2⟩ := grp_dom c hg
        have := (g3_closed g hg3 _ hm s hs).2 (by rw [hu]; omega)
        rw [hu, show c + 32 - 32 = c by omega] at this
        exact hn g hg3 this
      have hg2 : ¬ GrP (c + 32) := by unfold GrP at hg ⊢; omega
      rcases orb_no hno with ⟨h, _⟩ | ⟨_, _, _, h⟩ | ⟨_, h, _⟩
      · exact absurd h hg2
      · rw [h, show c + 32 - 32 = c by omega]
      · refine absurd ⟨?_, ?_⟩ h
        · unfold GrP at hg; omega
        · rw [show c + 32 - 32 = c by omega]; exact hg
  · rw [he] at hy ⊢
    simp only [List.mem_cons, List.not_mem_nil, or_false] at hy
    rcases hy with rfl | rfl
    · have hno : ∀ g ∈ G3, c - 32 ∉ g := fun g hg3 hm => by
        obtain ⟨s, hs, hu, h1, h2⟩ := grp_dom _ hg
        have := (g3_closed g hg3 _ hm s hs).1 ⟨h1, h2⟩
        rw [hu, show c - 32 + 32 = c by omega] at this
        exact hn g hg3 this
      rcases orb_no hno with ⟨_, h⟩ | ⟨h, _⟩ | ⟨h, _⟩
      · rw [h, show c - 32 + 32 = c by omega]
      · exact absurd hg h
      · exact absurd hg h
    · exact he
  · rw [he] at hy ⊢
    rw [List.mem_singleton] at hy
    rw [hy]; exact he
theorem fold_idem {l s s2 : List Rg} (h : SetOf (FoldP l) s) (h2 : SetOf (FoldP s) s2) : s2 = s := by
  refine h2.unique h fun x a b => ?_
  constructor
  · rintro ⟨y, ⟨_, _, hy⟩, hx⟩
    obtain ⟨_, _, z, hz, hyz⟩ := (h.mem y).1 hy
    exact ⟨z, hz, by rw [← orb_same hyz]; exact hx⟩
  · intro hx
    exact ⟨x, ⟨a, b, (h.mem x).2 ⟨a, b, hx⟩⟩, orb_self x⟩
theorem tablesFolds_walk {w : World} {A : Option Addr} {n c : Nat} {l : List Rg} (hA : RgIn w A n c l) :
    Calls Try.prog 21 #[.slice A n c] w fun e w' => e = .returned (.bool true) ∧ Below w.heap.size w w' := by
  have h1 := hA.max
  have h2 := hA.le
  unfold maxLen at h1
  have hn9 : (n : Int) ≤ 9223372036854775807 := by omega
  clear h1 h2
  have HA := Lib.hid hA
  clear hA
  go_enter Try.func21, Try.ntmps21
  go_wp2_with fail
  refine (head3_any w).mono ?_
  rintro e w1 ⟨rfl, hb1⟩
  by_cases hlt : 500 < n
  · have hd1 : decide (500 < n) = true := decide_eq_true hlt
    have hd2 : decide ((500 : Int) < (n : Int)) = true := decide_eq_true (by omega)
    have HB := Lib.hid hb1
    clear hb1 hlt
    go_wp2_with fail
    go_ret
    exact ⟨rfl, HB.out⟩
  · have hd1 : decide (500 < n) = false := decide_eq_false hlt
    have hd2 : decide ((500 : Int) < (n : Int)) = false := decide_eq_false (by omega)
    have hx := fold_any (HA.out.below hb1) (by omega)
    have HN := Lib.hid hlt
    have HB := Lib.hid hb1
    clear hb1 hlt
    go_wp2_with fail
    refine hx.mono ?_
    rintro e w2 ⟨B, m, d, s, rfl, hG⟩
    have hy := refFold_any ((HA.out.below HB.out).below hG.below) (by have := HN.out; omega)
    have HG := Lib.hid hG
    clear hx hG
    go_wp2_with fail
    refine hy.mono ?_
    rintro e w3 ⟨B', m', d', s', rfl, hG'⟩
    have hs := same_yes (HG.out.rg.below hG'.below) hG'.rg (HG.out.set.unique hG'.set fun _ _ _ => Iff.rfl)
    have HB3 := Lib.hid ((HB.out.onto HG.out.below).onto hG'.below)
    clear hy hG' HG
    go_wp2_with fail
    refine hs.mono ?_
    rintro e w4 ⟨rfl, hb4⟩
    have HB4 := Lib.hid (HB3.out.onto hb4)
    clear hs hb4
    go_wp2_with fail
    go_ret
    exact ⟨rfl, HB4.out⟩
set_option maxRecDepth 20000 in
set_option maxHeartbeats 4000000 in
theorem alikeT {w : World} {A : Option Addr} {n cc : Nat} {l : List Rg} (hA : RgIn w A n cc l) (c : Int) (hn : n ≤ 500) (h0 : 0 ≤ c) (h1 : c ≤ 1114111) :
    Calls Try.prog 22 #[.slice A n cc, .int .i32 c] w fun e w' => e = .returned (.bool true) ∧ Below w.heap.size w w' := by
  have hn9 : (n : Int) ≤ 500 := by omega
  have k0 : ¬ c < 0 := by omega
  have k1 : ¬ 1114111 < c := by omega
  have kn : ¬ (500 : Int) < (n : Int) := by omega
  have HA := Lib.hid hA
  have hx := fun W => orbit_any c W
  rw [orbL_in h0 h1] at hx
  have H01 := Lib.hid (And.intro h0 h1)
  clear hA h0 h1
  go_enter Try.func22, Try.ntmps22
  go_wp2_with fail
  refine (head3_any w).mono ?_
  rintro e w1 ⟨rfl, hb1⟩
  have HB1 := Lib.hid hb1
  clear hb1
  go_wp2_with fail
  refine (hx w1).mono ?_
  rintro e w2 ⟨Bo, mo, dd, rfl, hR, hb2⟩
  have hA2 := (HA.out.below HB1.out).below hb2
  have hmo : mo = (orbR c).length := hR.len.symm
  have hmo3 := orb_len c
  rw [← hmo] at hmo3
  have hmo9 : (mo : Int) ≤ 3 := by omega
  have HMO := Lib.hid hmo
  have HR := Lib.hid hR
  have HB2 := Lib.hid (HB1.out.onto hb2)
  have hown0 := World.ownsRow_made (base := w2.heap.size) (size := 2) (e := 28) w2 #[] 0 (Nat.le_refl _) (Nat.zero_le _) rfl
  have hab0 := own_above hown0
  have hrd : Rd (w2.alloc (.cells #[] 28)) 0 w2.heap.size A (rgCells l) := hA2.rd.same ((Same.refl _ _ _).alloc (Nat.le_refl _) _)
  have hnl := hA2.nil
  have hl2 : (rgCells l).length = n * 2 := by rw [rgCells_length, hA2.len]
  have hft := Lib.hid hA2.fits
  clear hx hR hb2 hA2 hmo
  go_wp2_with (first
    | (at_builtin; refine wpList_app _ rfl _ _ 23 rfl w2.heap.size 28 elRg _ _ _ rfl hown0 0 w2.heap.size A n _ (rgCells l) rfl hnl hl2 hrd (rgCells_one l) (by unfold maxLen; omega) (by omega) (by simp) ?_; intro v1 W1 hv1 hg1 _ _; simp only [Nat.zero_add, List.nil_append] at hv1; obtain ⟨F1, f1, rfl, _, _⟩ := own_form hv1; have hW1 := ((Below.refl w2.heap.size w2).alloc (Nat.le_refl _) _).grown hg1 (by simp) hab0; have hz1 := hW1.size; have HW1 := Lib.hid hW1; clear hW1 hg1 hown0 hab0 hrd hnl hl2)
    | (at_builtin; refine wpList_app _ rfl _ _ 23 rfl w2.heap.size 28 elRg _ _ _ rfl (hv1.alloc _) 0 (W1.heap.size + 1) _ 1 1 [.int .i32 c, .int .i32 c] rfl (fun h => by cases h) rfl (Rd.new W1 _ _ _ (Nat.zero_le _) (by omega)) (by simp [Value.oneCell']) (by unfold maxLen; omega) (by omega) (by simp; omega) ?_; intro v2 W2 hv2 hg2 _ _; obtain ⟨F2, f2, rfl, _, _⟩ := own_form hv2; have hW2 := (HW1.out.alloc HW1.out.size _).grown hg2 (by simp; omega) (own_above hv1); have HW2 := Lib.hid hW2; clear hW2 hg2 hv1))
  have hR2 : RgIn W2 F2 (n + 1) f2 (l ++ [(c, c)]) := by
    refine RgIn.of_own (base := w2.heap.size) (by rw [rgCells_append]; exact hv2) (by rw [List.length_append, HA.out.len]; rfl) fun p hp => ?_
    rcases List.mem_append.1 hp with h | h
    · exact hft.out p h
    · rw [List.mem_singleton] at h
      subst h
      have := H01.out
      exact ⟨⟨by simp only; omega, by simp only; omega⟩, by simp only; omega, by simp only; omega⟩
  have hf := fold_any hR2 (by omega)
  have HB3 := Lib.hid (HB2.out.onto HW2.out)
  clear hR2 hv2
  go_wp2_with fail
  refine hf.mono ?_
  rintro e w3 ⟨B, m, d, s, rfl, hG⟩
  have HG := Lib.hid hG
  have HRo := Lib.hid ((HR.out.below HW2.out).below hG.below)
  have HBG := Lib.hid (HB3.out.onto hG.below)
  clear hf hG HR HB3 HW2 HW1 HB2
  go_wp2_with fail
  go_loopg [7, 9] (mo + 1) (fun q th iv W => ∃ (j : Nat), q = mo + 1 - j ∧ j ≤ mo ∧ th = .bool (decide (c ∈ (orbR c).take j)) ∧ iv = .int .i64 (j : Int) ∧ Hid (Below w3.heap.size w3 W))
  case atStart => exact ⟨0, rfl, by omega, by simp, rfl, Lib.hid (Below.refl _ _)⟩
  case round =>
    obtain ⟨j, hgk, hj, rfl, rfl, HW⟩ := hrel
    obtain ⟨wo, hwo⟩ : ∃ wo, wo = wr := ⟨_, rfl⟩
    subst hwo
    have HGK := Lib.hid hgk
    clear hgk
    by_cases hlt : j < mo
    · have hji : (j : Int) < (mo : Int) := by omega
      obtain ⟨b7, o7, x, hBe, _, hxx, hcx⟩ := (HRo.out.below HW.out).at hlt
      have c1 := hcx wo (Same.refl _ _ _)
      have hxm := List.mem_of_getElem? hxx
      have hxb := orb_bound H01.out.1 H01.out.2 hxm
      have ho := orbit_any x wo
      rw [orbL_in hxb.1 hxb.2, orb_same hxm] at ho
      have hhas : hasB s x = true := (hasB_iff s x).2 ⟨hxb, (HG.out.set.mem x).2 ⟨hxb.1, hxb.2, c, ⟨H01.out.1, H01.out.2, (mem_append _ _ _).2 (.inr ((mem_one _ _).2 ⟨Int.le_refl _, Int.le_refl _⟩))⟩, hxm⟩⟩
      have hnx : (c ∈ (orbR c).take (j + 1)) ↔ (c ∈ (orbR c).take j ∨ x = c) := by rw [List.take_add_one, hxx]; simp [eq_comm]
      have HNX := Lib.hid hnx
      have HLT := Lib.hid hlt
      have HCX : Hid (∀ W, Below wo.heap.size wo W → W.cell? ⟨b7, o7 + j, none⟩ = some (.int .i32 x)) := Lib.hid fun W hW => hcx W (.of_below hW (Nat.le_refl _))
      subst hBe
      clear hxx hcx hxm hxb hnx hlt
      by_cases ht : c ∈ (orbR c).take j
      · have HD : Hid (decide (c ∈ (orbR c).take (j + 1)) = true) := Lib.hid (decide_eq_true (HNX.out.2 (.inl ht)))
        rw [decide_eq_true ht]
        clear ht HNX
        go_wp2_with fail
        refine ho.mono ?_
        rintro e w5 ⟨Bq, mq, dq, rfl, hRq, hb5⟩
        have hs := same3_any hRq ((HRo.out.below HW.out).below hb5)
        rw [decide_eq_true rfl] at hs
        have c2 := HCX.out w5 hb5
        have HB5 := Lib.hid (HW.out.onto hb5)
        have HH5 := Lib.hid hb5
        clear ho hRq hb5 c1
        go_wp2_with fail
        refine hs.mono ?_
        rintro e w6 ⟨rfl, hb6⟩
        have c3 := HCX.out w6 (HH5.out.onto hb6)
        have HB6 := Lib.hid (HB5.out.onto hb6)
        have hh := refHas_any (HG.out.rg.below HB6.out) x
        rw [hhas] at hh
        clear hs hb6 c2
        go_wp2_with fail
        refine hh.mono ?_
        rintro e w7 ⟨rfl, hw⟩
        rw [← hw]
        clear hh hw w7
        go_wp2_with fail
        go_roundg (mo + 1 - (j + 1))
        case measure => have := HGK.out; have := HLT.out; omega
        case rel => exact ⟨j + 1, rfl, by have := HLT.out; omega, by rw [HD.out], by go_num, HB6⟩
      · rw [decide_eq_false ht]
        by_cases hy : x = c
        · have hyb : (x == c) = true := beq_iff_eq.2 hy
          have HD : Hid (decide (c ∈ (orbR c).take (j + 1)) = true) := Lib.hid (decide_eq_true (HNX.out.2 (.inr hy)))
          clear ht hy HNX
          go_wp2_with fail
          refine ho.mono ?_
          rintro e w5 ⟨Bq, mq, dq, rfl, hRq, hb5⟩
          have hs := same3_any hRq ((HRo.out.below HW.out).below hb5)
          rw [decide_eq_true rfl] at hs
          have c2 := HCX.out w5 hb5
          have HB5 := Lib.hid (HW.out.onto hb5)
          have HH5 := Lib.hid hb5
          clear ho hRq hb5 c1
          go_wp2_with fail
          refine hs.mono ?_
          rintro e w6 ⟨rfl, hb6⟩
          have c3 := HCX.out w6 (HH5.out.onto hb6)
          have HB6 := Lib.hid (HB5.out.onto hb6)
          have hh := refHas_any (HG.out.rg.below HB6.out) x
          rw [hhas] at hh
          clear hs hb6 c2
          go_wp2_with fail
          refine hh.mono ?_
          rintro e w7 ⟨rfl, hw⟩
          rw [← hw]
          clear hh hw w7
          go_wp2_with fail
          go_roundg (mo + 1 - (j + 1))
          case measure => have := HGK.out; have := HLT.out; omega
          case rel => exact ⟨j + 1, rfl, by have := HLT.out; omega, by rw [HD.out], by go_num, HB6⟩
        · have hyb : (x == c) = false := beq_eq_false_iff_ne.2 hy
          have HD : Hid (decide (c ∈ (orbR c).take (j + 1)) = false) := Lib.hid (decide_eq_false fun h => (HNX.out.1 h).elim ht hy)
          clear ht hy HNX
          go_wp2_with fail
          refine ho.mono ?_
          rintro e w5 ⟨Bq, mq, dq, rfl, hRq, hb5⟩
          have hs := same3_any hRq ((HRo.out.below HW.out).below hb5)
          rw [decide_eq_true rfl] at hs
          have c2 := HCX.out w5 hb5
          have HB5 := Lib.hid (HW.out.onto hb5)
          have HH5 := Lib.hid hb5
          clear ho hRq hb5 c1
          go_wp2_with fail
          refine hs.mono ?_
          rintro e w6 ⟨rfl, hb6⟩
          have c3 := HCX.out w6 (HH5.out.onto hb6)
          have HB6 := Lib.hid (HB5.out.onto hb6)
          have hh := refHas_any (HG.out.rg.below HB6.out) x
          rw [hhas] at hh
          clear hs hb6 c2
          go_wp2_with fail
          refine hh.mono ?_
          rintro e w7 ⟨rfl, hw⟩
          rw [← hw]
          clear hh hw w7
          go_wp2_with fail
          go_roundg (mo + 1 - (j + 1))
          case measure => have := HGK.out; have := HLT.out; omega
          case rel => exact ⟨j + 1, rfl, by have := HLT.out; omega, by rw [HD.out], by go_num, HB6⟩
    · have hjm : j = mo := by omega
      subst hjm
      have hji : ¬ (j : Int) < (j : Int) := by omega
      have hd : decide (c ∈ (orbR c).take j) = true := decide_eq_true (by rw [List.take_of_length_le (by rw [← HMO.out]; exact Nat.le_refl _)]; exact orb_self c)
      rw [hd]
      have hf := fold_any (HG.out.rg.below HW.out) (by rw [← HG.out.len]; have := HG.out.small; omega)
      clear hlt hd
      go_wp2_with fail
      refine hf.mono ?_
      rintro e w5 ⟨B5, m5, d5, s5, rfl, hG5⟩
      have hs := same_yes hG5.rg ((HG.out.rg.below HW.out).below hG5.below) (fold_idem HG.out.set hG5.set)
      have HB5 := Lib.hid ((HBG.out.onto HW.out).onto hG5.below)
      clear hf hG5
      go_wp2_with fail
      refine hs.mono ?_
      rintro e w6 ⟨rfl, hb6⟩
      have HB6 := Lib.hid (HB5.out.onto hb6)
      clear hs hb6
      go_wp2_with fail
      go_ret
      exact ⟨rfl, HB6.out⟩
set_option maxHeartbeats 1000000 in
theorem alike_neg {w : World} {A : Option Addr} {n cc : Nat} {l : List Rg} (hA : RgIn w A n cc l) (c : Int) (h0 : c < 0) :
    Calls Try.prog 22 #[.slice A n cc, .int .i32 c] w fun e w' => e = .returned (.bool true) ∧ Below w.heap.size w w' := by
  have h1 := hA.max
  have h2 := hA.le
  unfold maxLen at h1
  have hn9 : (n : Int) ≤ 9223372036854775807 := by omega
  have hx := fun W => orbit_any c W
  clear hA h1 h2
  rw [show orbL c = [] from if_neg fun h => by omega] at hx
  go_enter Try.func22, Try.ntmps22
  go_wp2_with fail
  refine (head3_any w).mono ?_
  rintro e w1 ⟨rfl, hb1⟩
  have HB1 := Lib.hid hb1
  clear hb1
  go_wp2_with fail
  refine (hx w1).mono ?_
  rintro e w2 ⟨Bo, mo, dd, rfl, hR, hb2⟩
  have HB2 := Lib.hid (HB1.out.onto hb2)
  have hmo : mo = 0 := hR.len.symm
  subst hmo
  clear hx hR hb2
  go_wp2_with fail
  go_ret
  exact ⟨rfl, HB2.out⟩
set_option maxHeartbeats 1000000 in
theorem alike_big {w : World} {A : Option Addr} {n cc : Nat} {l : List Rg} (hA : RgIn w A n cc l) (c : Int) (h1 : 1114111 < c) :
    Calls Try.prog 22 #[.slice A n cc, .int .i32 c] w fun e w' => e = .returned (.bool true) ∧ Below w.heap.size w w' := by
  have hm1 := hA.max
  have h2 := hA.le
  unfold maxLen at hm1
  have hn9 : (n : Int) ≤ 9223372036854775807 := by omega
  have hx := fun W => orbit_any c W
  have k0 : ¬ c < 0 := by omega
  clear hA hm1 h2
  rw [show orbL c = [] from if_neg fun h => by omega] at hx
  go_enter Try.func22, Try.ntmps22
  go_wp2_with fail
  refine (head3_any w).mono ?_
  rintro e w1 ⟨rfl, hb1⟩
  have HB1 := Lib.hid hb1
  clear hb1
  go_wp2_with fail
  refine (hx w1).mono ?_
  rintro e w2 ⟨Bo, mo, dd, rfl, hR, hb2⟩
  have HB2 := Lib.hid (HB1.out.onto hb2)
  have hmo : mo = 0 := hR.len.symm
  subst hmo
  clear hx hR hb2
  go_wp2_with fail
  go_ret
  exact ⟨rfl, HB2.out⟩
set_option maxHeartbeats 1000000 in
theorem alike_long {w : World} {A : Option Addr} {n cc : Nat} {l : List Rg} (hA : RgIn w A n cc l) (c : Int) (h0 : 0 ≤ c) (h9 : c ≤ 1114111) (hn : 500 < n) :
    Calls Try.prog 22 #[.slice A n cc, .int .i32 c] w fun e w' => e = .returned (.bool true) ∧ Below w.heap.size w w' := by
  have h1 := hA.max
  have h2 := hA.le
  unfold maxLen at h1
  have hn9 : (n : Int) ≤ 9223372036854775807 := by omega
  have hx := fun W => orbit_any c W
  clear hA h1 h2
  have k0 : ¬ c < 0 := by omega
  have k1 : ¬ 1114111 < c := by omega
  have kn : (500 : Int) < (n : Int) := by omega
  have kd : decide (500 < n) = true := decide_eq_true hn
  have kd2 : decide ((500 : Int) < (n : Int)) = true := decide_eq_true kn
  go_enter Try.func22, Try.ntmps22
  go_wp2_with fail
  refine (head3_any w).mono ?_
  rintro e w1 ⟨rfl, hb1⟩
  have HB1 := Lib.hid hb1
  clear hb1
  go_wp2_with fail
  refine (hx w1).mono ?_
  rintro e w2 ⟨Bo, mo, dd, rfl, hR, hb2⟩
  have HB2 := Lib.hid (HB1.out.onto hb2)
  have hmm := hR.max
  have hml := hR.le
  unfold maxLen at hmm
  have hmo9 : (mo : Int) ≤ 9223372036854775807 := by omega
  clear hx hR hb2 hmm hml
  cases hmz : ((mo : Int) == 0)
  all_goals
    go_wp2_with fail
    go_ret
    exact ⟨rfl, HB2.out⟩
theorem tablesAlike_walk {w : World} {A : Option Addr} {n cc : Nat} {l : List Rg} (hA : RgIn w A n cc l) (c : Int) :
    Calls Try.prog 22 #[.slice A n cc, .int .i32 c] w fun e w' => e = .returned (.bool true) ∧ Below w.heap.size w w' := by
  by_cases h0 : c < 0
  · exact alike_neg hA c h0
  by_cases h1 : 1114111 < c
  · exact alike_big hA c h1
  by_cases hn : 500 < n
  · exact alike_long hA c (by omega) (by omega) hn
  exact alikeT hA c (by omega) (by omega) (by omega)
end Go.Proofs.Ytoglnankopdohaa
