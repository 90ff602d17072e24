/- ProgsAlike: the law's walk. -/
import Derived.Test.YtbhcgjahlfpjoaaAl1
import Derived.Test.YtbhcgjahlfpjoaaPc9
import Derived.Test.YtbhcgjahlfpjoaaHeld
namespace Go.Proofs.Ytbhcgjahlfpjoaa
open Go.RowKit

set_option maxRecDepth 20000 in
set_option maxHeartbeats 4000000 in
theorem progsAlike_walk {w : World} {A : Option Addr} {n c : Nat} {st cp : Int} {L : List MI} (hA : PgIn w A n c L) (hfit : n * 56 ≤ 140737488351232 ∧ ∀ x ∈ L, x.n * 8 ≤ 140737488351232) (a b : Int) :
    Calls Try.prog 16 #[.agg #[.slice A n c, .int .i64 st, .int .i64 cp], .int .i32 a, .int .i32 b] w fun e w' => e = .returned (.bool true) ∧ Below w.heap.size w w' := by
  have hb : Below w.heap.size w (w.alloc (.cells #[.slice A n c, .int .i64 st, .int .i64 cp] 38)) := (Below.refl _ _).alloc (Nat.le_refl _) _
  have hB := Blk.new w 38 #[.slice A n c, .int .i64 st, .int .i64 cp]
  have HA := Lib.hid (hA.below hb)
  have HB := Lib.hid hb
  have HBK := Lib.hid hB
  have HF := Lib.hid hfit
  clear hA hfit hb hB
  go_enter Try.func16, Try.ntmps16
  go_wp2_with fail
  generalize w.alloc (.cells #[.slice A n c, .int .i64 st, .int .i64 cp] 38) = w0 at HA HB HBK ⊢
  refine (head12_any w0).mono ?_
  rintro e w1 ⟨rfl, hb1⟩
  replace HA := Lib.hid (HA.out.below hb1)
  replace HBK := Lib.hid (HBK.out.below hb1 HBK.out.lt)
  replace HB := Lib.hid (HB.out.trans (hb1.mono HB.out.size))
  clear hb1
  have hlong := long_any (st := st) (cp := cp) HA.out (fun x hx => by have := HF.out.2 x hx; omega) (by have := HF.out.1; omega)
  have c0 := HBK.out.cell 0
  have c1 := HBK.out.cell 1
  have c2 := HBK.out.cell 2
  simp only [List.getElem?_toArray, List.getElem?_cons_zero, List.getElem?_cons_succ] at c0 c1 c2
  go_wp2_with fail
  refine hlong.mono ?_
  rintro e w2 ⟨bl, rfl, hbl, hb2⟩
  replace HA := Lib.hid (HA.out.below hb2)
  replace HBK := Lib.hid (HBK.out.below hb2 HBK.out.lt)
  replace HB := Lib.hid (HB.out.trans (hb2.mono HB.out.size))
  clear hb2 hlong c0 c1 c2
  cases bl with
  | true =>
    go_wp2_with fail
    go_ret
    exact ⟨rfl, HB.out⟩
  | false =>
    obtain ⟨hn2, hs2⟩ := hbl rfl
    clear hbl
    have HSM := Lib.hid hs2
    have hcon := pcheck_any HA.out (st := st) (cp := cp) (fun x hx => Nat.le_trans (hs2 x hx) (by decide))
    have c0 := HBK.out.cell 0
    have c1 := HBK.out.cell 1
    have c2 := HBK.out.cell 2
    simp only [List.getElem?_toArray, List.getElem?_cons_zero, List.getElem?_cons_succ] at c0 c1 c2
    clear hs2
    go_wp2_with fail
    refine hcon.mono ?_
    rintro e w3 ⟨v, rfl, hv, hb3⟩
    replace HA := Lib.hid (HA.out.below hb3)
    replace HBK := Lib.hid (HBK.out.below hb3 HBK.out.lt)
    replace HB := Lib.hid (HB.out.trans (hb3.mono HB.out.size))
    clear hb3 hcon c0 c1 c2
    rcases hv with ⟨rfl, hyes⟩ | ⟨rfl, hno⟩
    case inr =>
      clear hno
      go_wp2_with fail
      go_ret
      exact ⟨rfl, HB.out⟩
    have hcon := classes_any (st := st) (cp := cp) HA.out HSM.out hn2
    have HYES := Lib.hid hyes
    have c0 := HBK.out.cell 0
    have c1 := HBK.out.cell 1
    have c2 := HBK.out.cell 2
    simp only [List.getElem?_toArray, List.getElem?_cons_zero, List.getElem?_cons_succ] at c0 c1 c2
    clear hyes
    go_wp2_with fail
    refine hcon.mono ?_
    rintro e w4 ⟨hb4, O, m, d, l, rfl, hI, hv⟩
    have hG : GSt (base11 ++ pts L) l := by
      rcases hv with ⟨h, _⟩ | ⟨_, h⟩
      · exact absurd HYES.out h
      · exact h
    have HI := Lib.hid hI
    have HGS := Lib.hid hG
    replace HA := Lib.hid (HA.out.below hb4)
    
    replace HBK := Lib.hid (HBK.out.below hb4 HBK.out.lt)
    replace HB := Lib.hid (HB.out.trans (hb4.mono HB.out.size))
    clear hb4 hcon c0 c1 c2 hv hI hG
    have hca := class_any HI.out a
    have hcb := class_any HI.out b
    by_cases h1 : a < 0
    · have d1 : decide (a < 0) = true := decide_eq_true h1
      clear hca hcb
      go_wp2_with fail
      go_ret
      exact ⟨rfl, HB.out⟩
    have d1 : decide (a < 0) = false := decide_eq_false h1
    by_cases h2 : b < 0
    · have d2 : decide (b < 0) = true := decide_eq_true h2
      clear hca hcb
      go_wp2_with fail
      go_ret
      exact ⟨rfl, HB.out⟩
    have d2 : decide (b < 0) = false := decide_eq_false h2
    by_cases h3 : 1114111 < a
    · have d3 : decide (1114111 < a) = true := decide_eq_true h3
      clear hca hcb
      go_wp2_with fail
      go_ret
      exact ⟨rfl, HB.out⟩
    have d3 : decide (1114111 < a) = false := decide_eq_false h3
    by_cases h4 : 1114111 < b
    · have d4 : decide (1114111 < b) = true := decide_eq_true h4
      clear hca hcb
      go_wp2_with fail
      go_ret
      exact ⟨rfl, HB.out⟩
    have d4 : decide (1114111 < b) = false := decide_eq_false h4
    have HAL : classZ l a = classZ l b → Hid (Alike L a b) := fun h => Lib.hid ⟨by omega, by omega, class_alike HGS.out (by omega) (by omega) h⟩
    generalize classZ l a = za at hca HAL
    generalize classZ l b = zb at hcb HAL
    by_cases hz : za = zb
    case neg =>
      have dz : (za != zb) = true := bne_iff_ne.2 hz
      clear HAL
      go_wp2_with fail
      refine hca.mono ?_
      rintro e w5 ⟨rfl, hw5⟩
      rw [hw5]
      clear hw5
      go_wp2_with fail
      refine hcb.mono ?_
      rintro e w6 ⟨rfl, hw6⟩
      rw [hw6]
      clear hw6
      go_wp2_with fail
      go_ret
      exact ⟨rfl, HB.out⟩
    have dz : (za != zb) = false := by rw [hz]; simp
    have HK := HAL hz
    subst hz
    clear HAL
    have hle : (n : Int) ≤ 2000 := by omega
    go_wp2_with fail
    refine hca.mono ?_
    rintro e w5 ⟨rfl, hw5⟩
    rw [hw5]
    clear hw5
    go_wp2_with fail
    refine hcb.mono ?_
    rintro e w6 ⟨rfl, hw6⟩
    rw [hw6]
    clear hw6
    clear hca hcb
    go_wp2_with fail
    go_loopg [9] (n + 1) (fun q i W => ∃ (j : Nat), q = n + 1 - j ∧ j ≤ n ∧ i = .int .i64 (j : Int) ∧ Hid (Below w4.heap.size w4 W))
    case atStart => exact ⟨0, rfl, Nat.zero_le _, rfl, Lib.hid (Below.refl _ _)⟩
    case round =>
      obtain ⟨j, hgk, hj, rfl, HR⟩ := hrel
      have HG := Lib.hid hgk
      have HJ := Lib.hid hj
      clear hgk hj
      have hbk := HBK.out.below HR.out HBK.out.lt
      have c0 := hbk.cell 0
      simp only [List.getElem?_toArray, List.getElem?_cons_zero] at c0
      clear hbk
      by_cases hlt : j < n
      case neg =>
        have hi : ¬ (j : Int) < (n : Int) := by omega
        clear hlt
        obtain ⟨z, hza⟩ : ∃ z, wordB a = z := ⟨_, rfl⟩
        have hzb : wordB b = z := HK.out.word ▸ hza
        have hwa := fun W => hza ▸ refWord_any a W
        have hwb := fun W => hzb ▸ refWord_any b W
        have dq : (z == z) = true := by simp
        have hfeed := HK.out.feed
        by_cases h10 : a = 10
        · have e1 : (a == 10) = true := beq_iff_eq.2 h10
          have e2 : (b == 10) = true := by rw [← hfeed]; exact e1
          clear hza hzb hfeed h10
          go_wp2_with fail
          refine (hwa _).mono ?_
          rintro e w5 ⟨rfl, hw5⟩
          rw [← hw5]
          clear hw5
          go_wp2_with fail
          refine (hwb _).mono ?_
          rintro e w6 ⟨rfl, hw6⟩
          rw [← hw6]
          clear hw6
          go_wp2_with fail
          go_ret
          exact ⟨rfl, HB.out.trans (HR.out.mono HB.out.size)⟩
        · have e1 : (a == 10) = false := beq_eq_false_iff_ne.2 h10
          have e2 : (b == 10) = false := by rw [← hfeed]; exact e1
          clear hza hzb hfeed h10
          go_wp2_with fail
          refine (hwa _).mono ?_
          rintro e w5 ⟨rfl, hw5⟩
          rw [← hw5]
          clear hw5
          go_wp2_with fail
          refine (hwb _).mono ?_
          rintro e w6 ⟨rfl, hw6⟩
          rw [← hw6]
          clear hw6
          go_wp2_with fail
          go_ret
          exact ⟨rfl, HB.out.trans (HR.out.mono HB.out.size)⟩
      have hi : (j : Int) < (n : Int) := by omega
      obtain ⟨bA, oA, x, hAe, _, hx, hxI, hxc⟩ := HA.out.at hlt
      obtain ⟨_, _, _, c3, _⟩ := hxc wr (.of_below HR.out (Nat.le_refl _))
      obtain ⟨z, hza⟩ : ∃ z, hasB x.set a = z := ⟨_, rfl⟩
      have hzb : hasB x.set b = z := (HK.out.has (List.mem_of_getElem? hx)).symm.trans hza
      have HZA := Lib.hid hza
      have HZB := Lib.hid hzb
      have HXW : Hid (RgIn wr.drew x.A x.n x.c x.set) := Lib.hid (RgIn.below hxI HR.out.drew)
      have HLT := Lib.hid hlt
      subst hAe
      clear hx hxI hxc hlt hza hzb
      go_upto_region 10 with fail
      have hS := And.intro c0 c3
      clear c0 c3
      refine wp_region_T (S := fun w' => w'.cell? ⟨w.heap.size, 0, none⟩ = some (.slice (some ⟨bA, oA, none⟩) n c) ∧ w'.cell? ⟨bA, oA + j * 5 + 3, none⟩ = some (.slice x.A x.n x.c)) (t := 17) (by kernel_rfl) ?_
      refine wpAnyT_take (i := 0) (v := ?_) rfl (by kernel_rfl) (by kernel_rfl) (by kernel_rfl) (fun _ _ _ h => h) (by kernel_rfl) (Or.inl ⟨by rfl, ?_⟩) hS ?_
      rotate_left
      · (intro w _; go_simp; try with_reducible rfl)
      try simp only [Array.getInternal_eq_getElem, List.getElem_toArray, List.getElem_cons_succ, List.getElem_cons_zero, Act.put, List.setIfInBounds_toArray, List.set_cons_zero, List.set_cons_succ]
      refine wpAnyT_take (i := 1) (v := ?_) rfl (by kernel_rfl) (by kernel_rfl) (by kernel_rfl) (fun _ _ _ h => h) (by kernel_rfl) (Or.inl ⟨by rfl, ?_⟩) hS ?_
      rotate_left
      · (intro w hS; obtain ⟨s1, s2⟩ := hS; go_simp; try with_reducible rfl)
      try simp only [Array.getInternal_eq_getElem, List.getElem_toArray, List.getElem_cons_succ, List.getElem_cons_zero, Act.put, List.setIfInBounds_toArray, List.set_cons_zero, List.set_cons_succ]
      refine wpAnyT_take (i := 2) (v := ?_) rfl (by kernel_rfl) (by kernel_rfl) (by kernel_rfl) (fun _ _ _ h => h) (by kernel_rfl) (Or.inl ⟨by rfl, ?_⟩) hS ?_
      rotate_left
      · (intro w _; go_simp; try with_reducible rfl)
      try simp only [Array.getInternal_eq_getElem, List.getElem_toArray, List.getElem_cons_succ, List.getElem_cons_zero, Act.put, List.setIfInBounds_toArray, List.set_cons_zero, List.set_cons_succ]
      refine wpAnyT_take (i := 3) (v := ?_) rfl (by kernel_rfl) (by kernel_rfl) (by kernel_rfl) (fun _ _ _ h => h) (by kernel_rfl) (Or.inl ⟨by rfl, ?_⟩) hS ?_
      rotate_left
      · (intro w _; go_simp; try with_reducible rfl)
      try simp only [Array.getInternal_eq_getElem, List.getElem_toArray, List.getElem_cons_succ, List.getElem_cons_zero, Act.put, List.setIfInBounds_toArray, List.set_cons_zero, List.set_cons_succ]
      refine wpAnyT_take (i := 4) (v := ?_) rfl (by kernel_rfl) (by kernel_rfl) (by kernel_rfl) (fun _ _ _ h => h) (by kernel_rfl) (Or.inl ⟨by rfl, ?_⟩) hS ?_
      rotate_left
      · (intro w _; go_simp; try with_reducible rfl)
      try simp only [Array.getInternal_eq_getElem, List.getElem_toArray, List.getElem_cons_succ, List.getElem_cons_zero, Act.put, List.setIfInBounds_toArray, List.set_cons_zero, List.set_cons_succ]
      refine wpAnyT_take (i := 5) (v := ?_) rfl (by kernel_rfl) (by kernel_rfl) (by kernel_rfl) (fun _ _ _ h => h) (by kernel_rfl) (Or.inl ⟨by rfl, ?_⟩) hS ?_
      rotate_left
      · (intro w hS; obtain ⟨s1, s2⟩ := hS; go_simp; try with_reducible rfl)
      try simp only [Array.getInternal_eq_getElem, List.getElem_toArray, List.getElem_cons_succ, List.getElem_cons_zero, Act.put, List.setIfInBounds_toArray, List.set_cons_zero, List.set_cons_succ]
      refine wpAnyT_take (i := 6) (v := ?_) rfl (by kernel_rfl) (by kernel_rfl) (by kernel_rfl) (fun _ _ _ h => h) (by kernel_rfl) (Or.inl ⟨by rfl, ?_⟩) hS ?_
      rotate_left
      · (intro w _; go_simp; try with_reducible rfl)
      try simp only [Array.getInternal_eq_getElem, List.getElem_toArray, List.getElem_cons_succ, List.getElem_cons_zero, Act.put, List.setIfInBounds_toArray, List.set_cons_zero, List.set_cons_succ]
      refine wpAnyT_take (i := 8) (v := ?_) rfl (by kernel_rfl) (by kernel_rfl) (by kernel_rfl) (fun _ _ _ h => h) (by kernel_rfl) (Or.inl ⟨by rfl, ?_⟩) hS ?_
      rotate_left
      · (intro w _; go_simp; try with_reducible rfl)
      try simp only [Array.getInternal_eq_getElem, List.getElem_toArray, List.getElem_cons_succ, List.getElem_cons_zero, Act.put, List.setIfInBounds_toArray, List.set_cons_zero, List.set_cons_succ]
      refine wpAnyT_take (i := 9) (v := ?_) rfl (by kernel_rfl) (by kernel_rfl) (by kernel_rfl) (fun _ _ _ h => h) (by kernel_rfl) (Or.inl ⟨by rfl, ?_⟩) hS ?_
      rotate_left
      · (intro w hS; obtain ⟨s1, s2⟩ := hS; go_simp; try with_reducible rfl)
      try simp only [Array.getInternal_eq_getElem, List.getElem_toArray, List.getElem_cons_succ, List.getElem_cons_zero, Act.put, List.setIfInBounds_toArray, List.set_cons_zero, List.set_cons_succ]
      refine wpAnyT_take (i := 10) (v := ?_) rfl (by kernel_rfl) (by kernel_rfl) (by kernel_rfl) (fun _ _ _ h => h) (by kernel_rfl) (Or.inl ⟨by rfl, ?_⟩) hS ?_
      rotate_left
      · (intro w _; go_simp; try with_reducible rfl)
      try simp only [Array.getInternal_eq_getElem, List.getElem_toArray, List.getElem_cons_succ, List.getElem_cons_zero, Act.put, List.setIfInBounds_toArray, List.set_cons_zero, List.set_cons_succ]
      refine wpAnyT_take (i := 11) (v := ?_) rfl (by kernel_rfl) (by kernel_rfl) (by kernel_rfl) (fun _ _ _ h => h) (by kernel_rfl) (Or.inl ⟨by rfl, ?_⟩) hS ?_
      rotate_left
      · (intro w _; go_simp; try with_reducible rfl)
      try simp only [Array.getInternal_eq_getElem, List.getElem_toArray, List.getElem_cons_succ, List.getElem_cons_zero, Act.put, List.setIfInBounds_toArray, List.set_cons_zero, List.set_cons_succ]
      refine wpAnyT_take (i := 12) (v := ?_) rfl (by kernel_rfl) (by kernel_rfl) (by kernel_rfl) (fun _ _ _ h => h) (by kernel_rfl) (Or.inl ⟨by rfl, ?_⟩) hS ?_
      rotate_left
      · (intro w _; go_simp; try with_reducible rfl)
      try simp only [Array.getInternal_eq_getElem, List.getElem_toArray, List.getElem_cons_succ, List.getElem_cons_zero, Act.put, List.setIfInBounds_toArray, List.set_cons_zero, List.set_cons_succ]
      refine wpAnyT_take (i := 13) (v := ?_) rfl (by kernel_rfl) (by kernel_rfl) (by kernel_rfl) (fun _ _ _ h => h) (by kernel_rfl) (Or.inl ⟨by rfl, ?_⟩) hS ?_
      rotate_left
      · (intro w hS; obtain ⟨s1, s2⟩ := hS; go_simp; try with_reducible rfl)
      try simp only [Array.getInternal_eq_getElem, List.getElem_toArray, List.getElem_cons_succ, List.getElem_cons_zero, Act.put, List.setIfInBounds_toArray, List.set_cons_zero, List.set_cons_succ]
      refine wpAnyT_take (i := 14) (v := ?_) rfl (by kernel_rfl) (by kernel_rfl) (by kernel_rfl) (fun _ _ _ h => h) (by kernel_rfl) (Or.inl ⟨by rfl, ?_⟩) hS ?_
      rotate_left
      · (intro w _; go_simp; try with_reducible rfl)
      try simp only [Array.getInternal_eq_getElem, List.getElem_toArray, List.getElem_cons_succ, List.getElem_cons_zero, Act.put, List.setIfInBounds_toArray, List.set_cons_zero, List.set_cons_succ]
      refine wpAnyT_one (i := 7) (by kernel_rfl) rfl (fun K hK => ?_)
      go_simp
      refine (refHas_any HXW.out a).mono ?_
      rintro e w6 ⟨rfl, rfl⟩
      rw [HZA.out]
      go_simp
      replace hS := hS
      refine hK _ _ (Or.inr hS) ?_
      clear hK K
      try simp only [Array.getInternal_eq_getElem, List.getElem_toArray, List.getElem_cons_succ, List.getElem_cons_zero, Act.put, List.setIfInBounds_toArray, List.set_cons_zero, List.set_cons_succ]
      refine wpAnyT_one (i := 15) (by kernel_rfl) rfl (fun K hK => ?_)
      go_simp
      refine (refHas_any HXW.out b).mono ?_
      rintro e w7 ⟨rfl, rfl⟩
      rw [HZB.out]
      go_simp
      replace hS := hS
      refine hK _ _ (Or.inr hS) ?_
      clear hK K
      try simp only [Array.getInternal_eq_getElem, List.getElem_toArray, List.getElem_cons_succ, List.getElem_cons_zero, Act.put, List.setIfInBounds_toArray, List.set_cons_zero, List.set_cons_succ]
      refine wpAnyT_take (i := 16) (v := ?_) rfl (by kernel_rfl) (by kernel_rfl) (by kernel_rfl) (fun _ _ _ h => h) (by kernel_rfl) (Or.inl ⟨by rfl, ?_⟩) hS ?_
      rotate_left
      · (intro w _; go_simp; try with_reducible rfl)
      try simp only [Array.getInternal_eq_getElem, List.getElem_toArray, List.getElem_cons_succ, List.getElem_cons_zero, Act.put, List.setIfInBounds_toArray, List.set_cons_zero, List.set_cons_succ]
      refine wpAnyT_done (by kernel_rfl) ?_ _
      have dq : (z != z) = false := by simp
      go_wp2_with fail
      go_roundg (n + 1 - (j + 1))
      case measure => have := HG.out; have := HLT.out; omega
      case rel => exact ⟨j + 1, rfl, by have := HLT.out; omega, by go_num, Lib.hid HR.out.drew⟩
end Go.Proofs.Ytbhcgjahlfpjoaa
