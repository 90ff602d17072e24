/- TreesTwice: the law's walk. -/
import Derived.Test.YtbhcgjahlfpjoaaQ45
import Derived.Test.YtbhcgjahlfpjoaaQ26
import Derived.Test.YtbhcgjahlfpjoaaQ29
namespace Go.Proofs.Ytbhcgjahlfpjoaa
open Go.RowKit

set_option maxRecDepth 20000 in
set_option maxHeartbeats 8000000 in
theorem treesTwice_walk {w : World} {t : Tr} {kA : Option Addr} {kn kc : Nat} {sA : Option Addr} {sn sc : Nat} (hT : TIn w t ⟨kA, kn, kc, sA, sn, sc⟩) : Calls Try.prog 9 #[.agg #[.int .i64 t.op, .slice kA kn kc, .int .i32 t.rune, .slice sA sn sc, .int .i64 t.at_, .int .i64 t.cap, .string t.name, .int .i64 t.mn, .int .i64 t.mx, .bool t.lzy]] w fun e w' => e = .returned (.bool true) ∧ Below w.heap.size w w' := by
  have hb : Below w.heap.size w (w.alloc (.cells #[.int .i64 t.op, .slice kA kn kc, .int .i32 t.rune, .slice sA sn sc, .int .i64 t.at_, .int .i64 t.cap, .string t.name, .int .i64 t.mn, .int .i64 t.mx, .bool t.lzy] 27)) := (Below.refl _ _).alloc (Nat.le_refl _) _
  have hB := TBox.newV w t kA kn kc sA sn sc
  have HT := Lib.hid (hT.on hb)
  have HTW := Lib.hid hT
  have HB := Lib.hid hb
  have HBX := Lib.hid hB
  clear hb hB hT
  go_enter Try.func9, Try.ntmps9
  go_wp2_with fail
  generalize w.alloc (.cells #[.int .i64 t.op, .slice kA kn kc, .int .i32 t.rune, .slice sA sn sc, .int .i64 t.at_, .int .i64 t.cap, .string t.name, .int .i64 t.mn, .int .i64 t.mx, .bool t.lzy] 27) = w0 at HB HBX HT ⊢
  refine (head05_any _).mono ?_
  rintro e _ ⟨rfl, hb1⟩
  replace HT := Lib.hid (HT.out.on hb1)
  replace HBX := Lib.hid (HBX.out.below hb1)
  replace HB := Lib.hid (HB.out.trans (hb1.mono HB.out.size))
  clear hb1
  have h10 := HBX.out.ten
  have k0 := h10.c0
  have k1 := h10.c1
  have k2 := h10.c2
  have k3 := h10.c3
  have k4 := h10.c4
  have k5 := h10.c5
  have k6 := h10.c6
  have k7 := h10.c7
  have k8 := h10.c8
  have k9 := h10.c9
  dsimp only at k1 k3
  clear h10
  go_wp2_with fail
  refine (great_any HT.out).mono ?_
  rintro e _ ⟨b, rfl, hg, hb2⟩
  have HGR := Lib.hid hg
  clear hg
  replace HT := Lib.hid (HT.out.on hb2)
  replace HBX := Lib.hid (HBX.out.below hb2)
  replace HB := Lib.hid (HB.out.trans (hb2.mono HB.out.size))
  clear hb2
  clear k0 k1 k2 k3 k4 k5 k6 k7 k8 k9
  have h10 := HBX.out.ten
  have k0 := h10.c0
  have k1 := h10.c1
  have k2 := h10.c2
  have k3 := h10.c3
  have k4 := h10.c4
  have k5 := h10.c5
  have k6 := h10.c6
  have k7 := h10.c7
  have k8 := h10.c8
  have k9 := h10.c9
  dsimp only at k1 k3
  clear h10
  cases b with
  | true =>
    go_wp2_with fail
    go_ret
    exact ⟨rfl, HB.out⟩
  | false =>
  have HP := Lib.hid (HGR.out rfl)
  clear HGR
  go_wp2_with fail
  refine (tright_any HT.out HP.out).mono ?_
  rintro e _ ⟨v, rfl, hv, hb3⟩
  have HV := Lib.hid hv
  clear hv
  replace HT := Lib.hid (HT.out.on hb3)
  replace HBX := Lib.hid (HBX.out.below hb3)
  replace HB := Lib.hid (HB.out.trans (hb3.mono HB.out.size))
  clear hb3
  clear k0 k1 k2 k3 k4 k5 k6 k7 k8 k9
  have h10 := HBX.out.ten
  have k0 := h10.c0
  have k1 := h10.c1
  have k2 := h10.c2
  have k3 := h10.c3
  have k4 := h10.c4
  have k5 := h10.c5
  have k6 := h10.c6
  have k7 := h10.c7
  have k8 := h10.c8
  have k9 := h10.c9
  dsimp only at k1 k3
  clear h10
  cases v with
  | false =>
    go_wp2_with fail
    go_ret
    exact ⟨rfl, HB.out⟩
  | true =>
  have HR := Lib.hid (HV.out.1 rfl)
  clear HV
  go_wp2_with fail
  refine (pTurned_any HT.out (Below.refl _ _) HP.out).mono ?_
  rintro e w5 (⟨_, ⟨cA, cn, cc, eA, en, ec⟩, rfl, hz, hb5⟩ | ⟨hno, _⟩)
  case inr => exact absurd HR.out hno
  obtain ⟨a, ha⟩ : ∃ a, t.turn = a := ⟨_, rfl⟩
  have HPA : Hid (a.parts ≤ 20000) := Lib.hid (by rw [← ha]; exact Nat.le_trans (Tr.turn_parts HR.out.one) HP.out)
  have HRA : Hid (RightP a) := Lib.hid (by rw [← ha]; exact HR.out.turn)
  have HEM : Hid ((RightP a ∧ a.emp = true) ↔ (RightP t ∧ t.emp = true)) := Lib.hid (by rw [← ha]; exact ⟨fun h => ⟨HR.out, (Tr.turn_emp HR.out.one).symm.trans h.2⟩, fun h => ⟨HR.out.turn, (Tr.turn_emp HR.out.one).trans h.2⟩⟩)
  have HST : Hid ((RightP a ∧ StillP a) ↔ (RightP t ∧ StillP t)) := Lib.hid (by rw [← ha]; exact ⟨fun h => ⟨HR.out, (Tr.turn_still HR.out.one).1 h.2⟩, fun h => ⟨HR.out.turn, (Tr.turn_still HR.out.one).2 h.2⟩⟩)
  have HTW : Hid (a.turn = t.bare) := Lib.hid (by rw [← ha]; exact Tr.turn_twice HR.out.one)
  rw [ha] at hz ⊢
  clear ha
  have hO := TBox.newV w5 a cA cn cc eA en ec
  have hal : Below w5.heap.size w5 (w5.alloc (.cells #[.int .i64 a.op, .slice cA cn cc, .int .i32 a.rune, .slice eA en ec, .int .i64 a.at_, .int .i64 a.cap, .string a.name, .int .i64 a.mn, .int .i64 a.mx, .bool a.lzy] 27)) := (Below.refl _ _).alloc (Nat.le_refl _) _
  have hb6 := hb5.trans (hal.mono hb5.size)
  replace HT := Lib.hid (HT.out.on hb6)
  replace HBX := Lib.hid (HBX.out.below hb6)
  replace HB := Lib.hid (HB.out.trans (hb6.mono HB.out.size))
  have HA := Lib.hid (hz.tin.on hal)
  have HAX := Lib.hid hO
  clear hz hb5 hb6 hal hO
  clear k0 k1 k2 k3 k4 k5 k6 k7 k8 k9
  simp only [Tr.cells]
  go_upto_region 5 with fail
  obtain ⟨ga, hga⟩ : ∃ ga, w5.heap.size = ga := ⟨_, rfl⟩
  rw [hga] at HAX ⊢
  clear hga
  generalize w5.alloc (.cells #[.int .i64 a.op, .slice cA cn cc, .int .i32 a.rune, .slice eA en ec, .int .i64 a.at_, .int .i64 a.cap, .string a.name, .int .i64 a.mn, .int .i64 a.mx, .bool a.lzy] 27) = w6 at HT HBX HB HA HAX ⊢
  have h10 := HAX.out.ten
  have k0 := h10.c0
  have k1 := h10.c1
  have k2 := h10.c2
  have k3 := h10.c3
  have k4 := h10.c4
  have k5 := h10.c5
  have k6 := h10.c6
  have k7 := h10.c7
  have k8 := h10.c8
  have k9 := h10.c9
  dsimp only at k1 k3
  clear h10
  go_wp2_with fail
  refine (pTurned_any HA.out (Below.refl _ _) HPA.out).mono ?_
  rintro e w7 (⟨_, ⟨xA, xn, xc, yA, yn, yc⟩, rfl, hz, hb5⟩ | ⟨hno, _⟩)
  case inr => exact absurd HRA.out hno
  obtain ⟨b, hbq⟩ : ∃ b, a.turn = b := ⟨_, rfl⟩
  have HPB : Hid (b.parts ≤ 20000) := Lib.hid (by rw [← hbq]; exact Nat.le_trans (Tr.turn_parts HRA.out.one) HPA.out)
  have HTW2 : Hid (b = t.bare) := Lib.hid (by rw [← hbq]; exact HTW.out)
  rw [hbq] at hz ⊢
  clear hbq HTW
  have hO := TBox.newV w7 b xA xn xc yA yn yc
  have hal : Below w7.heap.size w7 (w7.alloc (.cells #[.int .i64 b.op, .slice xA xn xc, .int .i32 b.rune, .slice yA yn yc, .int .i64 b.at_, .int .i64 b.cap, .string b.name, .int .i64 b.mn, .int .i64 b.mx, .bool b.lzy] 27)) := (Below.refl _ _).alloc (Nat.le_refl _) _
  have hb6 := hb5.trans (hal.mono hb5.size)
  replace HT := Lib.hid (HT.out.on hb6)
  replace HBX := Lib.hid (HBX.out.below hb6)
  replace HA := Lib.hid (HA.out.on hb6)
  replace HAX := Lib.hid (HAX.out.below hb6)
  replace HB := Lib.hid (HB.out.trans (hb6.mono HB.out.size))
  have HBT := Lib.hid (hz.tin.on hal)
  have HBBX := Lib.hid hO
  clear hz hb5 hb6 hal hO
  clear k0 k1 k2 k3 k4 k5 k6 k7 k8 k9
  simp only [Tr.cells]
  go_upto_region 6 with fail
  obtain ⟨gb, hgb⟩ : ∃ gb, w7.heap.size = gb := ⟨_, rfl⟩
  rw [hgb] at HBBX ⊢
  clear hgb
  generalize w7.alloc (.cells #[.int .i64 b.op, .slice xA xn xc, .int .i32 b.rune, .slice yA yn yc, .int .i64 b.at_, .int .i64 b.cap, .string b.name, .int .i64 b.mn, .int .i64 b.mx, .bool b.lzy] 27) = w8 at HT HBX HB HA HAX HBT HBBX ⊢
  replace HT := Lib.hid (HT.out.on (Below.refl _ w8).drew)
  replace HA := Lib.hid (HA.out.on (Below.refl _ w8).drew)
  replace HBT := Lib.hid (HBT.out.on (Below.refl _ w8).drew)
  replace HBX := Lib.hid (HBX.out.below (Below.refl _ w8).drew)
  replace HAX := Lib.hid (HAX.out.below (Below.refl _ w8).drew)
  replace HBBX := Lib.hid (HBBX.out.below (Below.refl _ w8).drew)
  replace HB := Lib.hid HB.out.drew
  have hS := And.intro HBX.out.conj (And.intro HAX.out.conj HBBX.out.conj)
  refine wp_region_T (S := fun w' => (w'.cell? ⟨w.heap.size, 0, none⟩ = some (.int .i64 t.op) ∧ w'.cell? ⟨w.heap.size, 1, none⟩ = some (.slice kA kn kc) ∧ w'.cell? ⟨w.heap.size, 2, none⟩ = some (.int .i32 t.rune) ∧ w'.cell? ⟨w.heap.size, 3, none⟩ = some (.slice sA sn sc) ∧ w'.cell? ⟨w.heap.size, 4, none⟩ = some (.int .i64 t.at_) ∧ w'.cell? ⟨w.heap.size, 5, none⟩ = some (.int .i64 t.cap) ∧ w'.cell? ⟨w.heap.size, 6, none⟩ = some (.string t.name) ∧ w'.cell? ⟨w.heap.size, 7, none⟩ = some (.int .i64 t.mn) ∧ w'.cell? ⟨w.heap.size, 8, none⟩ = some (.int .i64 t.mx) ∧ w'.cell? ⟨w.heap.size, 9, none⟩ = some (.bool t.lzy)) ∧ (w'.cell? ⟨ga, 0, none⟩ = some (.int .i64 a.op) ∧ w'.cell? ⟨ga, 1, none⟩ = some (.slice cA cn cc) ∧ w'.cell? ⟨ga, 2, none⟩ = some (.int .i32 a.rune) ∧ w'.cell? ⟨ga, 3, none⟩ = some (.slice eA en ec) ∧ w'.cell? ⟨ga, 4, none⟩ = some (.int .i64 a.at_) ∧ w'.cell? ⟨ga, 5, none⟩ = some (.int .i64 a.cap) ∧ w'.cell? ⟨ga, 6, none⟩ = some (.string a.name) ∧ w'.cell? ⟨ga, 7, none⟩ = some (.int .i64 a.mn) ∧ w'.cell? ⟨ga, 8, none⟩ = some (.int .i64 a.mx) ∧ w'.cell? ⟨ga, 9, none⟩ = some (.bool a.lzy)) ∧ (w'.cell? ⟨gb, 0, none⟩ = some (.int .i64 b.op) ∧ w'.cell? ⟨gb, 1, none⟩ = some (.slice xA xn xc) ∧ w'.cell? ⟨gb, 2, none⟩ = some (.int .i32 b.rune) ∧ w'.cell? ⟨gb, 3, none⟩ = some (.slice yA yn yc) ∧ w'.cell? ⟨gb, 4, none⟩ = some (.int .i64 b.at_) ∧ w'.cell? ⟨gb, 5, none⟩ = some (.int .i64 b.cap) ∧ w'.cell? ⟨gb, 6, none⟩ = some (.string b.name) ∧ w'.cell? ⟨gb, 7, none⟩ = some (.int .i64 b.mn) ∧ w'.cell? ⟨gb, 8, none⟩ = some (.int .i64 b.mx) ∧ w'.cell? ⟨gb, 9, none⟩ = some (.bool b.lzy))) (t := 26) (by kernel_rfl) ?_
  refine wpAnyT_take (i := 0) (v := ?_) rfl (by kernel_rfl) (by kernel_rfl) (by kernel_rfl) (fun _ _ _ h => h) (by kernel_rfl) (Or.inl ⟨by rfl, ?_⟩) hS ?_
  rotate_left
  · (intro w _; go_simp; try with_reducible rfl)
  try simp only [List.getElem_toArray, List.getElem_cons_zero, Act.put, List.setIfInBounds_toArray, List.set_cons_zero, List.set_cons_succ]
  refine wpAnyT_take (i := 1) (v := ?_) rfl (by kernel_rfl) (by kernel_rfl) (by kernel_rfl) (fun _ _ _ h => h) (by kernel_rfl) (Or.inl ⟨by rfl, ?_⟩) hS ?_
  rotate_left
  · (intro w _; go_simp; try with_reducible rfl)
  try simp only [List.getElem_toArray, List.getElem_cons_succ, List.getElem_cons_zero, Act.put, List.setIfInBounds_toArray, List.set_cons_zero, List.set_cons_succ]
  refine wpAnyT_take (i := 2) (v := ?_) rfl (by kernel_rfl) (by kernel_rfl) (by kernel_rfl) (fun _ _ _ h => h) (by kernel_rfl) (Or.inl ⟨by rfl, ?_⟩) hS ?_
  rotate_left
  · (intro w hS; obtain ⟨⟨s0, s1, s2, s3, s4, s5, s6, s7, s8, s9⟩, ⟨r0, r1, r2, r3, r4, r5, r6, r7, r8, r9⟩, u0, u1, u2, u3, u4, u5, u6, u7, u8, u9⟩ := hS; go_simp; try with_reducible rfl)
  try simp only [List.getElem_toArray, List.getElem_cons_succ, List.getElem_cons_zero, Act.put, List.setIfInBounds_toArray, List.set_cons_zero, List.set_cons_succ]
  refine wpAnyT_one (i := 3) (by kernel_rfl) rfl (fun K hK => ?_)
  go_simp
  refine (tright_any HA.out HPA.out).mono ?_
  rintro e _ ⟨v, rfl, hv, hb1⟩
  obtain rfl : v = true := hv.2 HRA.out
  clear hv
  replace HT := Lib.hid (HT.out.on hb1)
  replace HA := Lib.hid (HA.out.on hb1)
  replace HBT := Lib.hid (HBT.out.on hb1)
  replace HBX := Lib.hid (HBX.out.below hb1)
  replace HAX := Lib.hid (HAX.out.below hb1)
  replace HBBX := Lib.hid (HBBX.out.below hb1)
  replace HB := Lib.hid (HB.out.trans (hb1.mono HB.out.size))
  clear hb1
  go_simp
  replace hS := And.intro HBX.out.conj (And.intro HAX.out.conj HBBX.out.conj)
  refine hK _ _ (Or.inr hS) ?_
  clear hK K
  try simp only [Array.getInternal_eq_getElem, List.getElem_toArray, List.getElem_cons_succ, List.getElem_cons_zero, Act.put, List.setIfInBounds_toArray, List.set_cons_zero, List.set_cons_succ]
  refine wpAnyT_take (i := 4) (v := ?_) rfl (by kernel_rfl) (by kernel_rfl) (by kernel_rfl) (fun _ _ _ h => h) (by kernel_rfl) (Or.inl ⟨by rfl, ?_⟩) hS ?_
  rotate_left
  · (intro w _; go_simp; try with_reducible rfl)
  try simp only [List.getElem_toArray, List.getElem_cons_succ, List.getElem_cons_zero, Act.put, List.setIfInBounds_toArray, List.set_cons_zero, List.set_cons_succ]
  refine wpAnyT_take (i := 5) (v := ?_) rfl (by kernel_rfl) (by kernel_rfl) (by kernel_rfl) (fun _ _ _ h => h) (by kernel_rfl) (Or.inl ⟨by rfl, ?_⟩) hS ?_
  rotate_left
  · (intro w _; go_simp; try with_reducible rfl)
  try simp only [List.getElem_toArray, List.getElem_cons_succ, List.getElem_cons_zero, Act.put, List.setIfInBounds_toArray, List.set_cons_zero, List.set_cons_succ]
  refine wpAnyT_take (i := 6) (v := ?_) rfl (by kernel_rfl) (by kernel_rfl) (by kernel_rfl) (fun _ _ _ h => h) (by kernel_rfl) (Or.inl ⟨by rfl, ?_⟩) hS ?_
  rotate_left
  · (intro w hS; obtain ⟨⟨s0, s1, s2, s3, s4, s5, s6, s7, s8, s9⟩, ⟨r0, r1, r2, r3, r4, r5, r6, r7, r8, r9⟩, u0, u1, u2, u3, u4, u5, u6, u7, u8, u9⟩ := hS; go_simp; try with_reducible rfl)
  try simp only [List.getElem_toArray, List.getElem_cons_succ, List.getElem_cons_zero, Act.put, List.setIfInBounds_toArray, List.set_cons_zero, List.set_cons_succ]
  refine wpAnyT_take (i := 7) (v := ?_) rfl (by kernel_rfl) (by kernel_rfl) (by kernel_rfl) (fun _ _ _ h => h) (by kernel_rfl) (Or.inl ⟨by rfl, ?_⟩) hS ?_
  rotate_left
  · (intro w hS; obtain ⟨⟨s0, s1, s2, s3, s4, s5, s6, s7, s8, s9⟩, ⟨r0, r1, r2, r3, r4, r5, r6, r7, r8, r9⟩, u0, u1, u2, u3, u4, u5, u6, u7, u8, u9⟩ := hS; go_simp; try with_reducible rfl)
  try simp only [List.getElem_toArray, List.getElem_cons_succ, List.getElem_cons_zero, Act.put, List.setIfInBounds_toArray, List.set_cons_zero, List.set_cons_succ]
  refine wpAnyT_one (i := 8) (by kernel_rfl) rfl (fun K hK => ?_)
  go_simp
  refine (bareT_any t HT.out (Below.refl _ _) HP.out HR.out.one).mono ?_
  rintro e w6 ⟨⟨lA, ln, lc, mA, mn, mc⟩, rfl, hz, hb6⟩
  replace HT := Lib.hid (HT.out.on hb6)
  replace HA := Lib.hid (HA.out.on hb6)
  replace HBT := Lib.hid (HBT.out.on hb6)
  replace HBX := Lib.hid (HBX.out.below hb6)
  replace HAX := Lib.hid (HAX.out.below hb6)
  replace HBBX := Lib.hid (HBBX.out.below hb6)
  replace HB := Lib.hid (HB.out.trans (hb6.mono HB.out.size))
  clear hb6
  have hz2 := hz.tin
  rw [← HTW2.out] at hz2
  have HBR := Lib.hid hz2
  clear hz hz2
  simp only [Tr.cells, ← HTW2.out]
  go_simp
  replace hS := And.intro HBX.out.conj (And.intro HAX.out.conj HBBX.out.conj)
  refine hK _ _ (Or.inr hS) ?_
  clear hK K
  try simp only [Array.getInternal_eq_getElem, List.getElem_toArray, List.getElem_cons_succ, List.getElem_cons_zero, Act.put, List.setIfInBounds_toArray, List.set_cons_zero, List.set_cons_succ]
  refine wpAnyT_one (i := 9) (by kernel_rfl) rfl (fun K hK => ?_)
  go_simp
  refine (rsame_yes b HBT.out HBR.out HPB.out).mono ?_
  rintro e w7 ⟨rfl, hb7⟩
  replace HT := Lib.hid (HT.out.on hb7)
  replace HA := Lib.hid (HA.out.on hb7)
  replace HBT := Lib.hid (HBT.out.on hb7)
  replace HBX := Lib.hid (HBX.out.below hb7)
  replace HAX := Lib.hid (HAX.out.below hb7)
  replace HBBX := Lib.hid (HBBX.out.below hb7)
  replace HB := Lib.hid (HB.out.trans (hb7.mono HB.out.size))
  clear hb7
  clear HBR
  go_simp
  replace hS := And.intro HBX.out.conj (And.intro HAX.out.conj HBBX.out.conj)
  refine hK _ _ (Or.inr hS) ?_
  clear hK K
  try simp only [Array.getInternal_eq_getElem, List.getElem_toArray, List.getElem_cons_succ, List.getElem_cons_zero, Act.put, List.setIfInBounds_toArray, List.set_cons_zero, List.set_cons_succ]
  refine wpAnyT_take (i := 10) (v := ?_) rfl (by kernel_rfl) (by kernel_rfl) (by kernel_rfl) (fun _ _ _ h => h) (by kernel_rfl) (Or.inl ⟨by rfl, ?_⟩) hS ?_
  rotate_left
  · (intro w _; go_simp; try with_reducible rfl)
  try simp only [List.getElem_toArray, List.getElem_cons_succ, List.getElem_cons_zero, Act.put, List.setIfInBounds_toArray, List.set_cons_zero, List.set_cons_succ]
  refine wpAnyT_take (i := 11) (v := ?_) rfl (by kernel_rfl) (by kernel_rfl) (by kernel_rfl) (fun _ _ _ h => h) (by kernel_rfl) (Or.inl ⟨by rfl, ?_⟩) hS ?_
  rotate_left
  · (intro w _; go_simp; try with_reducible rfl)
  try simp only [List.getElem_toArray, List.getElem_cons_succ, List.getElem_cons_zero, Act.put, List.setIfInBounds_toArray, List.set_cons_zero, List.set_cons_succ]
  refine wpAnyT_take (i := 12) (v := ?_) rfl (by kernel_rfl) (by kernel_rfl) (by kernel_rfl) (fun _ _ _ h => h) (by kernel_rfl) (Or.inl ⟨by rfl, ?_⟩) hS ?_
  rotate_left
  · (intro w hS; obtain ⟨⟨s0, s1, s2, s3, s4, s5, s6, s7, s8, s9⟩, ⟨r0, r1, r2, r3, r4, r5, r6, r7, r8, r9⟩, u0, u1, u2, u3, u4, u5, u6, u7, u8, u9⟩ := hS; go_simp; try with_reducible rfl)
  try simp only [List.getElem_toArray, List.getElem_cons_succ, List.getElem_cons_zero, Act.put, List.setIfInBounds_toArray, List.set_cons_zero, List.set_cons_succ]
  refine wpAnyT_take (i := 14) (v := ?_) rfl (by kernel_rfl) (by kernel_rfl) (by kernel_rfl) (fun _ _ _ h => h) (by kernel_rfl) (Or.inl ⟨by rfl, ?_⟩) hS ?_
  rotate_left
  · (intro w hS; obtain ⟨⟨s0, s1, s2, s3, s4, s5, s6, s7, s8, s9⟩, ⟨r0, r1, r2, r3, r4, r5, r6, r7, r8, r9⟩, u0, u1, u2, u3, u4, u5, u6, u7, u8, u9⟩ := hS; go_simp; try with_reducible rfl)
  try simp only [List.getElem_toArray, List.getElem_cons_succ, List.getElem_cons_zero, Act.put, List.setIfInBounds_toArray, List.set_cons_zero, List.set_cons_succ]
  refine wpAnyT_one (i := 13) (by kernel_rfl) rfl (fun K hK => ?_)
  go_simp
  refine (pEmpty_any HA.out HPA.out).mono ?_
  rintro e _ ⟨v1, rfl, hv1, hb1⟩
  have HV := Lib.hid hv1
  clear hv1
  replace HT := Lib.hid (HT.out.on hb1)
  replace HA := Lib.hid (HA.out.on hb1)
  replace HBT := Lib.hid (HBT.out.on hb1)
  replace HBX := Lib.hid (HBX.out.below hb1)
  replace HAX := Lib.hid (HAX.out.below hb1)
  replace HBBX := Lib.hid (HBBX.out.below hb1)
  replace HB := Lib.hid (HB.out.trans (hb1.mono HB.out.size))
  clear hb1
  go_simp
  replace hS := And.intro HBX.out.conj (And.intro HAX.out.conj HBBX.out.conj)
  refine hK _ _ (Or.inr hS) ?_
  clear hK K
  try simp only [Array.getInternal_eq_getElem, List.getElem_toArray, List.getElem_cons_succ, List.getElem_cons_zero, Act.put, List.setIfInBounds_toArray, List.set_cons_zero, List.set_cons_succ]
  refine wpAnyT_one (i := 15) (by kernel_rfl) rfl (fun K hK => ?_)
  go_simp
  refine (pEmpty_any HT.out HP.out).mono ?_
  rintro e _ ⟨v2, rfl, hv2, hb1⟩
  obtain rfl := yes_same HV.out (hv2.trans HEM.out.symm)
  clear hv2 HV
  replace HT := Lib.hid (HT.out.on hb1)
  replace HA := Lib.hid (HA.out.on hb1)
  replace HBT := Lib.hid (HBT.out.on hb1)
  replace HBX := Lib.hid (HBX.out.below hb1)
  replace HAX := Lib.hid (HAX.out.below hb1)
  replace HBBX := Lib.hid (HBBX.out.below hb1)
  replace HB := Lib.hid (HB.out.trans (hb1.mono HB.out.size))
  clear hb1
  go_simp
  replace hS := And.intro HBX.out.conj (And.intro HAX.out.conj HBBX.out.conj)
  refine hK _ _ (Or.inr hS) ?_
  clear hK K
  try simp only [Array.getInternal_eq_getElem, List.getElem_toArray, List.getElem_cons_succ, List.getElem_cons_zero, Act.put, List.setIfInBounds_toArray, List.set_cons_zero, List.set_cons_succ]
  cases v1 with
  | true =>
    refine wpAnyT_take (i := 16) (v := ?_) rfl (by kernel_rfl) (by kernel_rfl) (by kernel_rfl) (fun _ _ _ h => h) (by kernel_rfl) (Or.inl ⟨by rfl, ?_⟩) hS ?_
    rotate_left
    · (intro w _; go_simp; try with_reducible rfl)
    try simp only [List.getElem_toArray, List.getElem_cons_succ, List.getElem_cons_zero, Act.put, List.setIfInBounds_toArray, List.set_cons_zero, List.set_cons_succ]
    refine wpAnyT_take (i := 17) (v := ?_) rfl (by kernel_rfl) (by kernel_rfl) (by kernel_rfl) (fun _ _ _ h => h) (by kernel_rfl) (Or.inl ⟨by rfl, ?_⟩) hS ?_
    rotate_left
    · (intro w _; go_simp; try with_reducible rfl)
    try simp only [List.getElem_toArray, List.getElem_cons_succ, List.getElem_cons_zero, Act.put, List.setIfInBounds_toArray, List.set_cons_zero, List.set_cons_succ]
    refine wpAnyT_take (i := 18) (v := ?_) rfl (by kernel_rfl) (by kernel_rfl) (by kernel_rfl) (fun _ _ _ h => h) (by kernel_rfl) (Or.inl ⟨by rfl, ?_⟩) hS ?_
    rotate_left
    · (intro w _; go_simp; try with_reducible rfl)
    try simp only [List.getElem_toArray, List.getElem_cons_succ, List.getElem_cons_zero, Act.put, List.setIfInBounds_toArray, List.set_cons_zero, List.set_cons_succ]
    refine wpAnyT_take (i := 19) (v := ?_) rfl (by kernel_rfl) (by kernel_rfl) (by kernel_rfl) (fun _ _ _ h => h) (by kernel_rfl) (Or.inl ⟨by rfl, ?_⟩) hS ?_
    rotate_left
    · (intro w hS; obtain ⟨⟨s0, s1, s2, s3, s4, s5, s6, s7, s8, s9⟩, ⟨r0, r1, r2, r3, r4, r5, r6, r7, r8, r9⟩, u0, u1, u2, u3, u4, u5, u6, u7, u8, u9⟩ := hS; go_simp; try with_reducible rfl)
    try simp only [List.getElem_toArray, List.getElem_cons_succ, List.getElem_cons_zero, Act.put, List.setIfInBounds_toArray, List.set_cons_zero, List.set_cons_succ]
    refine wpAnyT_take (i := 21) (v := ?_) rfl (by kernel_rfl) (by kernel_rfl) (by kernel_rfl) (fun _ _ _ h => h) (by kernel_rfl) (Or.inl ⟨by rfl, ?_⟩) hS ?_
    rotate_left
    · (intro w hS; obtain ⟨⟨s0, s1, s2, s3, s4, s5, s6, s7, s8, s9⟩, ⟨r0, r1, r2, r3, r4, r5, r6, r7, r8, r9⟩, u0, u1, u2, u3, u4, u5, u6, u7, u8, u9⟩ := hS; go_simp; try with_reducible rfl)
    try simp only [List.getElem_toArray, List.getElem_cons_succ, List.getElem_cons_zero, Act.put, List.setIfInBounds_toArray, List.set_cons_zero, List.set_cons_succ]
    refine wpAnyT_one (i := 20) (by kernel_rfl) rfl (fun K hK => ?_)
    go_simp
    refine (pStill_any HA.out HPA.out).mono ?_
    rintro e _ ⟨v3, rfl, hv3, hb1⟩
    have HV3 := Lib.hid hv3
    clear hv3
    replace HT := Lib.hid (HT.out.on hb1)
    replace HA := Lib.hid (HA.out.on hb1)
    replace HBT := Lib.hid (HBT.out.on hb1)
    replace HBX := Lib.hid (HBX.out.below hb1)
    replace HAX := Lib.hid (HAX.out.below hb1)
    replace HBBX := Lib.hid (HBBX.out.below hb1)
    replace HB := Lib.hid (HB.out.trans (hb1.mono HB.out.size))
    clear hb1
    go_simp
    replace hS := And.intro HBX.out.conj (And.intro HAX.out.conj HBBX.out.conj)
    refine hK _ _ (Or.inr hS) ?_
    clear hK K
    try simp only [Array.getInternal_eq_getElem, List.getElem_toArray, List.getElem_cons_succ, List.getElem_cons_zero, Act.put, List.setIfInBounds_toArray, List.set_cons_zero, List.set_cons_succ]
    refine wpAnyT_one (i := 22) (by kernel_rfl) rfl (fun K hK => ?_)
    go_simp
    refine (pStill_any HT.out HP.out).mono ?_
    rintro e _ ⟨v4, rfl, hv4, hb1⟩
    obtain rfl := yes_same HV3.out (hv4.trans HST.out.symm)
    clear hv4 HV3
    replace HT := Lib.hid (HT.out.on hb1)
    replace HA := Lib.hid (HA.out.on hb1)
    replace HBT := Lib.hid (HBT.out.on hb1)
    replace HBX := Lib.hid (HBX.out.below hb1)
    replace HAX := Lib.hid (HAX.out.below hb1)
    replace HBBX := Lib.hid (HBBX.out.below hb1)
    replace HB := Lib.hid (HB.out.trans (hb1.mono HB.out.size))
    clear hb1
    go_simp
    replace hS := And.intro HBX.out.conj (And.intro HAX.out.conj HBBX.out.conj)
    refine hK _ _ (Or.inr hS) ?_
    clear hK K
    try simp only [Array.getInternal_eq_getElem, List.getElem_toArray, List.getElem_cons_succ, List.getElem_cons_zero, Act.put, List.setIfInBounds_toArray, List.set_cons_zero, List.set_cons_succ]
    cases v3 with
    | true =>
      refine wpAnyT_take (i := 23) (v := ?_) rfl (by kernel_rfl) (by kernel_rfl) (by kernel_rfl) (fun _ _ _ h => h) (by kernel_rfl) (Or.inl ⟨by rfl, ?_⟩) hS ?_
      rotate_left
      · (intro w _; go_simp; try with_reducible rfl)
      try simp only [List.getElem_toArray, List.getElem_cons_succ, List.getElem_cons_zero, Act.put, List.setIfInBounds_toArray, List.set_cons_zero, List.set_cons_succ]
      refine wpAnyT_take (i := 24) (v := ?_) rfl (by kernel_rfl) (by kernel_rfl) (by kernel_rfl) (fun _ _ _ h => h) (by kernel_rfl) (Or.inl ⟨by rfl, ?_⟩) hS ?_
      rotate_left
      · (intro w _; go_simp; try with_reducible rfl)
      try simp only [List.getElem_toArray, List.getElem_cons_succ, List.getElem_cons_zero, Act.put, List.setIfInBounds_toArray, List.set_cons_zero, List.set_cons_succ]
      refine wpAnyT_take (i := 25) (v := ?_) rfl (by kernel_rfl) (by kernel_rfl) (by kernel_rfl) (fun _ _ _ h => h) (by kernel_rfl) (Or.inl ⟨by rfl, ?_⟩) hS ?_
      rotate_left
      · (intro w _; go_simp; try with_reducible rfl)
      try simp only [List.getElem_toArray, List.getElem_cons_succ, List.getElem_cons_zero, Act.put, List.setIfInBounds_toArray, List.set_cons_zero, List.set_cons_succ]
      refine wpAnyT_done (by kernel_rfl) ?_ _
      go_wp2_with fail
      go_ret
      exact ⟨rfl, HB.out⟩
    | false =>
      refine wpAnyT_take (i := 23) (v := ?_) rfl (by kernel_rfl) (by kernel_rfl) (by kernel_rfl) (fun _ _ _ h => h) (by kernel_rfl) (Or.inl ⟨by rfl, ?_⟩) hS ?_
      rotate_left
      · (intro w _; go_simp; try with_reducible rfl)
      try simp only [List.getElem_toArray, List.getElem_cons_succ, List.getElem_cons_zero, Act.put, List.setIfInBounds_toArray, List.set_cons_zero, List.set_cons_succ]
      refine wpAnyT_take (i := 24) (v := ?_) rfl (by kernel_rfl) (by kernel_rfl) (by kernel_rfl) (fun _ _ _ h => h) (by kernel_rfl) (Or.inl ⟨by rfl, ?_⟩) hS ?_
      rotate_left
      · (intro w _; go_simp; try with_reducible rfl)
      try simp only [List.getElem_toArray, List.getElem_cons_succ, List.getElem_cons_zero, Act.put, List.setIfInBounds_toArray, List.set_cons_zero, List.set_cons_succ]
      refine wpAnyT_take (i := 25) (v := ?_) rfl (by kernel_rfl) (by kernel_rfl) (by kernel_rfl) (fun _ _ _ h => h) (by kernel_rfl) (Or.inl ⟨by rfl, ?_⟩) hS ?_
      rotate_left
      · (intro w _; go_simp; try with_reducible rfl)
      try simp only [List.getElem_toArray, List.getElem_cons_succ, List.getElem_cons_zero, Act.put, List.setIfInBounds_toArray, List.set_cons_zero, List.set_cons_succ]
      refine wpAnyT_done (by kernel_rfl) ?_ _
      go_wp2_with fail
      go_ret
      exact ⟨rfl, HB.out⟩
  | false =>
    refine wpAnyT_take (i := 16) (v := ?_) rfl (by kernel_rfl) (by kernel_rfl) (by kernel_rfl) (fun _ _ _ h => h) (by kernel_rfl) (Or.inl ⟨by rfl, ?_⟩) hS ?_
    rotate_left
    · (intro w _; go_simp; try with_reducible rfl)
    try simp only [List.getElem_toArray, List.getElem_cons_succ, List.getElem_cons_zero, Act.put, List.setIfInBounds_toArray, List.set_cons_zero, List.set_cons_succ]
    refine wpAnyT_take (i := 17) (v := ?_) rfl (by kernel_rfl) (by kernel_rfl) (by kernel_rfl) (fun _ _ _ h => h) (by kernel_rfl) (Or.inl ⟨by rfl, ?_⟩) hS ?_
    rotate_left
    · (intro w _; go_simp; try with_reducible rfl)
    try simp only [List.getElem_toArray, List.getElem_cons_succ, List.getElem_cons_zero, Act.put, List.setIfInBounds_toArray, List.set_cons_zero, List.set_cons_succ]
    refine wpAnyT_take (i := 18) (v := ?_) rfl (by kernel_rfl) (by kernel_rfl) (by kernel_rfl) (fun _ _ _ h => h) (by kernel_rfl) (Or.inl ⟨by rfl, ?_⟩) hS ?_
    rotate_left
    · (intro w _; go_simp; try with_reducible rfl)
    try simp only [List.getElem_toArray, List.getElem_cons_succ, List.getElem_cons_zero, Act.put, List.setIfInBounds_toArray, List.set_cons_zero, List.set_cons_succ]
    refine wpAnyT_take (i := 19) (v := ?_) rfl (by kernel_rfl) (by kernel_rfl) (by kernel_rfl) (fun _ _ _ h => h) (by kernel_rfl) (Or.inl ⟨by rfl, ?_⟩) hS ?_
    rotate_left
    · (intro w hS; obtain ⟨⟨s0, s1, s2, s3, s4, s5, s6, s7, s8, s9⟩, ⟨r0, r1, r2, r3, r4, r5, r6, r7, r8, r9⟩, u0, u1, u2, u3, u4, u5, u6, u7, u8, u9⟩ := hS; go_simp; try with_reducible rfl)
    try simp only [List.getElem_toArray, List.getElem_cons_succ, List.getElem_cons_zero, Act.put, List.setIfInBounds_toArray, List.set_cons_zero, List.set_cons_succ]
    refine wpAnyT_take (i := 21) (v := ?_) rfl (by kernel_rfl) (by kernel_rfl) (by kernel_rfl) (fun _ _ _ h => h) (by kernel_rfl) (Or.inl ⟨by rfl, ?_⟩) hS ?_
    rotate_left
    · (intro w hS; obtain ⟨⟨s0, s1, s2, s3, s4, s5, s6, s7, s8, s9⟩, ⟨r0, r1, r2, r3, r4, r5, r6, r7, r8, r9⟩, u0, u1, u2, u3, u4, u5, u6, u7, u8, u9⟩ := hS; go_simp; try with_reducible rfl)
    try simp only [List.getElem_toArray, List.getElem_cons_succ, List.getElem_cons_zero, Act.put, List.setIfInBounds_toArray, List.set_cons_zero, List.set_cons_succ]
    refine wpAnyT_one (i := 20) (by kernel_rfl) rfl (fun K hK => ?_)
    go_simp
    refine (pStill_any HA.out HPA.out).mono ?_
    rintro e _ ⟨v3, rfl, hv3, hb1⟩
    have HV3 := Lib.hid hv3
    clear hv3
    replace HT := Lib.hid (HT.out.on hb1)
    replace HA := Lib.hid (HA.out.on hb1)
    replace HBT := Lib.hid (HBT.out.on hb1)
    replace HBX := Lib.hid (HBX.out.below hb1)
    replace HAX := Lib.hid (HAX.out.below hb1)
    replace HBBX := Lib.hid (HBBX.out.below hb1)
    replace HB := Lib.hid (HB.out.trans (hb1.mono HB.out.size))
    clear hb1
    go_simp
    replace hS := And.intro HBX.out.conj (And.intro HAX.out.conj HBBX.out.conj)
    refine hK _ _ (Or.inr hS) ?_
    clear hK K
    try simp only [Array.getInternal_eq_getElem, List.getElem_toArray, List.getElem_cons_succ, List.getElem_cons_zero, Act.put, List.setIfInBounds_toArray, List.set_cons_zero, List.set_cons_succ]
    refine wpAnyT_one (i := 22) (by kernel_rfl) rfl (fun K hK => ?_)
    go_simp
    refine (pStill_any HT.out HP.out).mono ?_
    rintro e _ ⟨v4, rfl, hv4, hb1⟩
    obtain rfl := yes_same HV3.out (hv4.trans HST.out.symm)
    clear hv4 HV3
    replace HT := Lib.hid (HT.out.on hb1)
    replace HA := Lib.hid (HA.out.on hb1)
    replace HBT := Lib.hid (HBT.out.on hb1)
    replace HBX := Lib.hid (HBX.out.below hb1)
    replace HAX := Lib.hid (HAX.out.below hb1)
    replace HBBX := Lib.hid (HBBX.out.below hb1)
    replace HB := Lib.hid (HB.out.trans (hb1.mono HB.out.size))
    clear hb1
    go_simp
    replace hS := And.intro HBX.out.conj (And.intro HAX.out.conj HBBX.out.conj)
    refine hK _ _ (Or.inr hS) ?_
    clear hK K
    try simp only [Array.getInternal_eq_getElem, List.getElem_toArray, List.getElem_cons_succ, List.getElem_cons_zero, Act.put, List.setIfInBounds_toArray, List.set_cons_zero, List.set_cons_succ]
    cases v3 with
    | true =>
      refine wpAnyT_take (i := 23) (v := ?_) rfl (by kernel_rfl) (by kernel_rfl) (by kernel_rfl) (fun _ _ _ h => h) (by kernel_rfl) (Or.inl ⟨by rfl, ?_⟩) hS ?_
      rotate_left
      · (intro w _; go_simp; try with_reducible rfl)
      try simp only [List.getElem_toArray, List.getElem_cons_succ, List.getElem_cons_zero, Act.put, List.setIfInBounds_toArray, List.set_cons_zero, List.set_cons_succ]
      refine wpAnyT_take (i := 24) (v := ?_) rfl (by kernel_rfl) (by kernel_rfl) (by kernel_rfl) (fun _ _ _ h => h) (by kernel_rfl) (Or.inl ⟨by rfl, ?_⟩) hS ?_
      rotate_left
      · (intro w _; go_simp; try with_reducible rfl)
      try simp only [List.getElem_toArray, List.getElem_cons_succ, List.getElem_cons_zero, Act.put, List.setIfInBounds_toArray, List.set_cons_zero, List.set_cons_succ]
      refine wpAnyT_take (i := 25) (v := ?_) rfl (by kernel_rfl) (by kernel_rfl) (by kernel_rfl) (fun _ _ _ h => h) (by kernel_rfl) (Or.inl ⟨by rfl, ?_⟩) hS ?_
      rotate_left
      · (intro w _; go_simp; try with_reducible rfl)
      try simp only [List.getElem_toArray, List.getElem_cons_succ, List.getElem_cons_zero, Act.put, List.setIfInBounds_toArray, List.set_cons_zero, List.set_cons_succ]
      refine wpAnyT_done (by kernel_rfl) ?_ _
      go_wp2_with fail
      go_ret
      exact ⟨rfl, HB.out⟩
    | false =>
      refine wpAnyT_take (i := 23) (v := ?_) rfl (by kernel_rfl) (by kernel_rfl) (by kernel_rfl) (fun _ _ _ h => h) (by kernel_rfl) (Or.inl ⟨by rfl, ?_⟩) hS ?_
      rotate_left
      · (intro w _; go_simp; try with_reducible rfl)
      try simp only [List.getElem_toArray, List.getElem_cons_succ, List.getElem_cons_zero, Act.put, List.setIfInBounds_toArray, List.set_cons_zero, List.set_cons_succ]
      refine wpAnyT_take (i := 24) (v := ?_) rfl (by kernel_rfl) (by kernel_rfl) (by kernel_rfl) (fun _ _ _ h => h) (by kernel_rfl) (Or.inl ⟨by rfl, ?_⟩) hS ?_
      rotate_left
      · (intro w _; go_simp; try with_reducible rfl)
      try simp only [List.getElem_toArray, List.getElem_cons_succ, List.getElem_cons_zero, Act.put, List.setIfInBounds_toArray, List.set_cons_zero, List.set_cons_succ]
      refine wpAnyT_take (i := 25) (v := ?_) rfl (by kernel_rfl) (by kernel_rfl) (by kernel_rfl) (fun _ _ _ h => h) (by kernel_rfl) (Or.inl ⟨by rfl, ?_⟩) hS ?_
      rotate_left
      · (intro w _; go_simp; try with_reducible rfl)
      try simp only [List.getElem_toArray, List.getElem_cons_succ, List.getElem_cons_zero, Act.put, List.setIfInBounds_toArray, List.set_cons_zero, List.set_cons_succ]
      refine wpAnyT_done (by kernel_rfl) ?_ _
      go_wp2_with fail
      go_ret
      exact ⟨rfl, HB.out⟩
end Go.Proofs.Ytbhcgjahlfpjoaa
