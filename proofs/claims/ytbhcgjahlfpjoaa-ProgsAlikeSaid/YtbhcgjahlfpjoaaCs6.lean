/- ProgsClasses: the law's walk. -/
import Derived.Test.YtbhcgjahlfpjoaaCs5
import Derived.Test.YtbhcgjahlfpjoaaCs2
import Derived.Test.YtbhcgjahlfpjoaaPc9
import Derived.Test.YtbhcgjahlfpjoaaHeld
namespace Go.Proofs.Ytbhcgjahlfpjoaa
open Go.RowKit

theorem RnIn.drew {w : World} {A : Option Addr} {n c : Nat} {l : List Int} (h : RnIn w A n c l) : RnIn w.drew A n c l := h.drewN 1
theorem classes_any {w : World} {A : Option Addr} {n c : Nat} {st cp : Int} {L : List MI} (hA : PgIn w A n c L) (hs : ∀ x ∈ L, x.n ≤ 2000) (hn2 : n ≤ 2000) :
    Calls Try.prog 47 #[.agg #[.slice A n c, .int .i64 st, .int .i64 cp]] w (ClsB n st cp L w) := by
  by_cases h : PgOK n st cp L
  · exact classes_yes hA hs hn2 h
  · exact classes_bad hA hs h
theorem rclasses_any {w : World} {A : Option Addr} {n c : Nat} {st cp : Int} {L : List MI} (hA : PgIn w A n c L) (hs : ∀ x ∈ L, x.n ≤ 2000) (hn2 : n ≤ 2000) :
    Calls Try.prog 48 #[.agg #[.slice A n c, .int .i64 st, .int .i64 cp]] w (ClsB n st cp L w) := by
  by_cases h : PgOK n st cp L
  · exact rclasses_yes hA hs hn2 h
  · exact rclasses_bad hA h

set_option maxRecDepth 20000 in
set_option maxHeartbeats 4000000 in
theorem progsClasses_walk {w : World} {A : Option Addr} {n c : Nat} {st cp : Int} {L : List MI} (hA : PgIn w A n c L) (hfit : n * 56 ≤ 140737488351232 ∧ ∀ x ∈ L, x.n * 8 ≤ 140737488351232) {B : Option Addr} {m d : Nat} {l : List Int} (hI : RnIn w B m d l) (_ : m * 4 ≤ 140737488351232) (r : Int) :
    Calls Try.prog 15 #[.agg #[.slice A n c, .int .i64 st, .int .i64 cp], .slice B m d, .int .i32 r] w fun e w' => e = .returned (.bool true) ∧ Below w.heap.size w w' := by
  have hb : Below w.heap.size w (w.alloc (.cells #[.slice A n c, .int .i64 st, .int .i64 cp] 38)) := (Below.refl _ _).alloc (Nat.le_refl _) _
  have hB := Blk.new w 38 #[.slice A n c, .int .i64 st, .int .i64 cp]
  obtain ⟨z, hz⟩ : ∃ z, classZ l r = z := ⟨_, rfl⟩
  have HZ := Lib.hid hz
  have HA := Lib.hid (hA.below hb)
  have HI := Lib.hid (hI.below hb)
  have HB := Lib.hid hb
  have HBK := Lib.hid hB
  have HF := Lib.hid hfit
  clear hA hfit hI hb hB hz
  go_enter Try.func15, Try.ntmps15
  go_wp2_with fail
  generalize w.alloc (.cells #[.slice A n c, .int .i64 st, .int .i64 cp] 38) = w0 at HA HI HB HBK ⊢
  refine (head12_any w0).mono ?_
  rintro e w1 ⟨rfl, hb1⟩
  replace HA := Lib.hid (HA.out.below hb1)
  replace HI := Lib.hid (HI.out.below hb1)
  replace HBK := Lib.hid (HBK.out.below hb1 HBK.out.lt)
  replace HB := Lib.hid (HB.out.trans (hb1.mono HB.out.size))
  clear hb1
  have hlong := long_any (st := st) (cp := cp) HA.out (fun x hx => by have := HF.out.2 x hx; omega) (by have := HF.out.1; omega)
  have c0 := HBK.out.cell 0
  have c1 := HBK.out.cell 1
  have c2 := HBK.out.cell 2
  simp only [List.getElem?_toArray, List.getElem?_cons_zero, List.getElem?_cons_succ] at c0 c1 c2
  go_wp2_with fail
  refine hlong.mono ?_
  rintro e w2 ⟨b, rfl, hbl, hb2⟩
  have HB0 := Lib.hid (HB.out.trans (hb2.mono HB.out.size))
  replace hb2 := hb2.drew
  replace HA := Lib.hid (HA.out.below hb2)
  replace HI := Lib.hid (HI.out.below hb2)
  replace HBK := Lib.hid (HBK.out.below hb2 HBK.out.lt)
  replace HB := Lib.hid (HB.out.trans (hb2.mono HB.out.size))
  clear hb2 hlong c0 c1 c2
  cases b with
  | true =>
    go_wp2_with fail
    go_ret
    exact ⟨rfl, HB0.out⟩
  | false =>
    have HLN := Lib.hid (hbl rfl)
    clear hbl
    go_upto_region 4 with fail
    have hS := And.intro (HBK.out.cell 0) (And.intro (HBK.out.cell 1) (HBK.out.cell 2))
    refine wp_region_T (S := fun w' => w'.cell? ⟨w.heap.size, 0, none⟩ = some (.slice A n c) ∧ w'.cell? ⟨w.heap.size, 1, none⟩ = some (.int .i64 st) ∧ w'.cell? ⟨w.heap.size, 2, none⟩ = some (.int .i64 cp)) (t := 18) (by kernel_rfl) ?_
    refine wpAnyT_take (i := 0) (v := ?_) rfl (by kernel_rfl) (by kernel_rfl) (by kernel_rfl) (fun _ _ _ h => h) (by kernel_rfl) (Or.inl ⟨by rfl, ?_⟩) hS ?_
    rotate_left
    · (intro w _; go_simp; try with_reducible rfl)
    try simp only [Array.getInternal_eq_getElem, List.getElem_toArray, List.getElem_cons_succ, List.getElem_cons_zero, Act.put, List.setIfInBounds_toArray, List.set_cons_zero, List.set_cons_succ]
    refine wpAnyT_take (i := 1) (v := ?_) rfl (by kernel_rfl) (by kernel_rfl) (by kernel_rfl) (fun _ _ _ h => h) (by kernel_rfl) (Or.inl ⟨by rfl, ?_⟩) hS ?_
    rotate_left
    · (intro w _; go_simp; try with_reducible rfl)
    try simp only [Array.getInternal_eq_getElem, List.getElem_toArray, List.getElem_cons_succ, List.getElem_cons_zero, Act.put, List.setIfInBounds_toArray, List.set_cons_zero, List.set_cons_succ]
    refine wpAnyT_take (i := 2) (v := ?_) rfl (by kernel_rfl) (by kernel_rfl) (by kernel_rfl) (fun _ _ _ h => h) (by kernel_rfl) (Or.inl ⟨by rfl, ?_⟩) hS ?_
    rotate_left
    · (intro w hS; obtain ⟨s1, s2, s3⟩ := hS; go_simp; try with_reducible rfl)
    try simp only [Array.getInternal_eq_getElem, List.getElem_toArray, List.getElem_cons_succ, List.getElem_cons_zero, Act.put, List.setIfInBounds_toArray, List.set_cons_zero, List.set_cons_succ]
    refine wpAnyT_take (i := 4) (v := ?_) rfl (by kernel_rfl) (by kernel_rfl) (by kernel_rfl) (fun _ _ _ h => h) (by kernel_rfl) (Or.inl ⟨by rfl, ?_⟩) hS ?_
    rotate_left
    · (intro w hS; obtain ⟨s1, s2, s3⟩ := hS; go_simp; try with_reducible rfl)
    try simp only [Array.getInternal_eq_getElem, List.getElem_toArray, List.getElem_cons_succ, List.getElem_cons_zero, Act.put, List.setIfInBounds_toArray, List.set_cons_zero, List.set_cons_succ]
    refine wpAnyT_one (i := 3) (by kernel_rfl) rfl (fun K hK => ?_)
    go_simp
    refine (classes_any (st := st) (cp := cp) HA.out HLN.out.2 HLN.out.1).mono ?_
    rintro e w3 ⟨hb3, O1, n1, c1, xs, rfl, hi3, hv3⟩
    have HX := Lib.hid hi3
    have HV3 := Lib.hid hv3
    replace HA := Lib.hid (HA.out.below hb3)
    replace HI := Lib.hid (HI.out.below hb3)
    replace HBK := Lib.hid (HBK.out.below hb3 HBK.out.lt)
    replace HB := Lib.hid (HB.out.trans (hb3.mono HB.out.size))
    clear hi3 hv3 hb3
    go_simp
    replace hS := And.intro (HBK.out.cell 0) (And.intro (HBK.out.cell 1) (HBK.out.cell 2))
    refine hK _ _ (Or.inr hS) ?_
    clear hK K
    try simp only [Array.getInternal_eq_getElem, List.getElem_toArray, List.getElem_cons_succ, List.getElem_cons_zero, Act.put, List.setIfInBounds_toArray, List.set_cons_zero, List.set_cons_succ]
    refine wpAnyT_one (i := 5) (by kernel_rfl) rfl (fun K hK => ?_)
    go_simp
    refine (rclasses_any (st := st) (cp := cp) HA.out HLN.out.2 HLN.out.1).mono ?_
    rintro e w4 ⟨hb4, O2, n2, c2, ys, rfl, hi4, hv4⟩
    have hxy := ClsB.det HV3.out hv4
    have HXY := Lib.hid hxy
    have HY := Lib.hid hi4
    replace HI := Lib.hid (HI.out.below hb4)
    replace HX := Lib.hid (HX.out.below hb4)
    replace HBK := Lib.hid (HBK.out.below hb4 HBK.out.lt)
    replace HB := Lib.hid (HB.out.trans (hb4.mono HB.out.size))
    clear hi4 hv4 hb4 hxy
    go_simp
    replace hS := And.intro (HBK.out.cell 0) (And.intro (HBK.out.cell 1) (HBK.out.cell 2))
    refine hK _ _ (Or.inr hS) ?_
    clear hK K
    try simp only [Array.getInternal_eq_getElem, List.getElem_toArray, List.getElem_cons_succ, List.getElem_cons_zero, Act.put, List.setIfInBounds_toArray, List.set_cons_zero, List.set_cons_succ]
    refine wpAnyT_one (i := 6) (by kernel_rfl) rfl (fun K hK => ?_)
    go_simp
    refine (sameR_any HX.out HY.out).mono ?_
    rintro e w5 ⟨b5, rfl, hb5, hbw5⟩
    obtain rfl : b5 = true := hb5.2 HXY.out
    replace HI := Lib.hid (HI.out.below hbw5)
    replace HBK := Lib.hid (HBK.out.below hbw5 HBK.out.lt)
    replace HB := Lib.hid (HB.out.trans (hbw5.mono HB.out.size))
    clear hb5 hbw5
    go_simp
    replace hS := And.intro (HBK.out.cell 0) (And.intro (HBK.out.cell 1) (HBK.out.cell 2))
    refine hK _ _ (Or.inr hS) ?_
    clear hK K
    try simp only [Array.getInternal_eq_getElem, List.getElem_toArray, List.getElem_cons_succ, List.getElem_cons_zero, Act.put, List.setIfInBounds_toArray, List.set_cons_zero, List.set_cons_succ]
    refine wpAnyT_take (i := 7) (v := ?_) rfl (by kernel_rfl) (by kernel_rfl) (by kernel_rfl) (fun _ _ _ h => h) (by kernel_rfl) (Or.inl ⟨by rfl, ?_⟩) hS ?_
    rotate_left
    · (intro w _; go_simp; try with_reducible rfl)
    try simp only [Array.getInternal_eq_getElem, List.getElem_toArray, List.getElem_cons_succ, List.getElem_cons_zero, Act.put, List.setIfInBounds_toArray, List.set_cons_zero, List.set_cons_succ]
    refine wpAnyT_take (i := 8) (v := ?_) rfl (by kernel_rfl) (by kernel_rfl) (by kernel_rfl) (fun _ _ _ h => h) (by kernel_rfl) (Or.inl ⟨by rfl, ?_⟩) hS ?_
    rotate_left
    · (intro w _; go_simp; try with_reducible rfl)
    try simp only [Array.getInternal_eq_getElem, List.getElem_toArray, List.getElem_cons_succ, List.getElem_cons_zero, Act.put, List.setIfInBounds_toArray, List.set_cons_zero, List.set_cons_succ]
    refine wpAnyT_take (i := 9) (v := ?_) rfl (by kernel_rfl) (by kernel_rfl) (by kernel_rfl) (fun _ _ _ h => h) (by kernel_rfl) (Or.inl ⟨by rfl, ?_⟩) hS ?_
    rotate_left
    · (intro w _; go_simp; try with_reducible rfl)
    try simp only [Array.getInternal_eq_getElem, List.getElem_toArray, List.getElem_cons_succ, List.getElem_cons_zero, Act.put, List.setIfInBounds_toArray, List.set_cons_zero, List.set_cons_succ]
    refine wpAnyT_take (i := 10) (v := ?_) rfl (by kernel_rfl) (by kernel_rfl) (by kernel_rfl) (fun _ _ _ h => h) (by kernel_rfl) (Or.inl ⟨by rfl, ?_⟩) hS ?_
    rotate_left
    · (intro w _; go_simp; try with_reducible rfl)
    try simp only [Array.getInternal_eq_getElem, List.getElem_toArray, List.getElem_cons_succ, List.getElem_cons_zero, Act.put, List.setIfInBounds_toArray, List.set_cons_zero, List.set_cons_succ]
    refine wpAnyT_take (i := 12) (v := ?_) rfl (by kernel_rfl) (by kernel_rfl) (by kernel_rfl) (fun _ _ _ h => h) (by kernel_rfl) (Or.inl ⟨by rfl, ?_⟩) hS ?_
    rotate_left
    · (intro w _; go_simp; try with_reducible rfl)
    try simp only [Array.getInternal_eq_getElem, List.getElem_toArray, List.getElem_cons_succ, List.getElem_cons_zero, Act.put, List.setIfInBounds_toArray, List.set_cons_zero, List.set_cons_succ]
    refine wpAnyT_take (i := 13) (v := ?_) rfl (by kernel_rfl) (by kernel_rfl) (by kernel_rfl) (fun _ _ _ h => h) (by kernel_rfl) (Or.inl ⟨by rfl, ?_⟩) hS ?_
    rotate_left
    · (intro w _; go_simp; try with_reducible rfl)
    try simp only [Array.getInternal_eq_getElem, List.getElem_toArray, List.getElem_cons_succ, List.getElem_cons_zero, Act.put, List.setIfInBounds_toArray, List.set_cons_zero, List.set_cons_succ]
    refine wpAnyT_one (i := 11) (by kernel_rfl) rfl (fun K hK => ?_)
    go_simp
    refine (class_any HI.out r).mono ?_
    rintro e w6 ⟨rfl, rfl⟩
    rw [HZ.out]
    go_simp
    replace hS := And.intro (HBK.out.cell 0) (And.intro (HBK.out.cell 1) (HBK.out.cell 2))
    refine hK _ _ (Or.inr hS) ?_
    clear hK K
    try simp only [Array.getInternal_eq_getElem, List.getElem_toArray, List.getElem_cons_succ, List.getElem_cons_zero, Act.put, List.setIfInBounds_toArray, List.set_cons_zero, List.set_cons_succ]
    refine wpAnyT_one (i := 14) (by kernel_rfl) rfl (fun K hK => ?_)
    go_simp
    refine (rclass_any HI.out r).mono ?_
    rintro e w7 ⟨rfl, rfl⟩
    rw [HZ.out]
    go_simp
    replace hS := And.intro (HBK.out.cell 0) (And.intro (HBK.out.cell 1) (HBK.out.cell 2))
    refine hK _ _ (Or.inr hS) ?_
    clear hK K
    try simp only [Array.getInternal_eq_getElem, List.getElem_toArray, List.getElem_cons_succ, List.getElem_cons_zero, Act.put, List.setIfInBounds_toArray, List.set_cons_zero, List.set_cons_succ]
    refine wpAnyT_take (i := 15) (v := ?_) rfl (by kernel_rfl) (by kernel_rfl) (by kernel_rfl) (fun _ _ _ h => h) (by kernel_rfl) (Or.inl ⟨by rfl, ?_⟩) hS ?_
    rotate_left
    · (intro w _; go_simp; try with_reducible rfl)
    try simp only [Array.getInternal_eq_getElem, List.getElem_toArray, List.getElem_cons_succ, List.getElem_cons_zero, Act.put, List.setIfInBounds_toArray, List.set_cons_zero, List.set_cons_succ]
    refine wpAnyT_take (i := 16) (v := ?_) rfl (by kernel_rfl) (by kernel_rfl) (by kernel_rfl) (fun _ _ _ h => h) (by kernel_rfl) (Or.inl ⟨by rfl, ?_⟩) hS ?_
    rotate_left
    · (intro w _; go_simp; try with_reducible rfl)
    try simp only [Array.getInternal_eq_getElem, List.getElem_toArray, List.getElem_cons_succ, List.getElem_cons_zero, Act.put, List.setIfInBounds_toArray, List.set_cons_zero, List.set_cons_succ]
    refine wpAnyT_take (i := 17) (v := ?_) rfl (by kernel_rfl) (by kernel_rfl) (by kernel_rfl) (fun _ _ _ h => h) (by kernel_rfl) (Or.inl ⟨by rfl, ?_⟩) hS ?_
    rotate_left
    · (intro w _; go_simp; try with_reducible rfl)
    try simp only [Array.getInternal_eq_getElem, List.getElem_toArray, List.getElem_cons_succ, List.getElem_cons_zero, Act.put, List.setIfInBounds_toArray, List.set_cons_zero, List.set_cons_succ]
    refine wpAnyT_done (by kernel_rfl) ?_ _
    go_wp2_with fail
    go_ret
    exact ⟨rfl, HB.out⟩
end Go.Proofs.Ytbhcgjahlfpjoaa
