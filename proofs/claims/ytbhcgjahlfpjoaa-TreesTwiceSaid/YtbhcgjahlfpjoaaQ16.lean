/- TreesShaped: the law's walk. -/
import Derived.Test.YtbhcgjahlfpjoaaQ15
import Derived.Test.YtbhcgjahlfpjoaaQ13
namespace Go.Proofs.Ytbhcgjahlfpjoaa
open Go.RowKit

theorem RightL.caps {l : List Tr} (h : RightL l) : ∀ p ∈ l, OkS p := fun p hp => ⟨h.1 p hp, fun h6 => by
  have hm : p ∈ grp l := List.mem_filter.2 ⟨hp, by simp [h6]⟩
  obtain ⟨i, hi⟩ := List.mem_iff_getElem?.1 hm
  have := (h.2 i p hi).1
  omega⟩
theorem RightP.shaped {t : Tr} (h : RightP t) : ShapedP t := h.2.2.caps
theorem yes_same {P : Prop} {a b : Bool} (ha : a = true ↔ P) (hb : b = true ↔ P) : a = b := by
  cases a <;> cases b <;> simp_all
set_option maxRecDepth 20000 in
set_option maxHeartbeats 2000000 in
theorem treesShaped_walk {w : World} {t : Tr} {kA : Option Addr} {kn kc : Nat} {sA : Option Addr} {sn sc : Nat} (hT : TIn w t ⟨kA, kn, kc, sA, sn, sc⟩) : Calls Try.prog 6 #[.agg #[.int .i64 t.op, .slice kA kn kc, .int .i32 t.rune, .slice sA sn sc, .int .i64 t.at_, .int .i64 t.cap, .string t.name, .int .i64 t.mn, .int .i64 t.mx, .bool t.lzy]] w fun e w' => e = .returned (.bool true) ∧ Below w.heap.size w w' := by
  have hb : Below w.heap.size w (w.alloc (.cells #[.int .i64 t.op, .slice kA kn kc, .int .i32 t.rune, .slice sA sn sc, .int .i64 t.at_, .int .i64 t.cap, .string t.name, .int .i64 t.mn, .int .i64 t.mx, .bool t.lzy] 27)) := (Below.refl _ _).alloc (Nat.le_refl _) _
  have hB := TBox.newV w t kA kn kc sA sn sc
  have HT := Lib.hid (hT.on hb)
  have HTW := Lib.hid hT
  have HB := Lib.hid hb
  have HBX := Lib.hid hB
  clear hb hB hT
  go_enter Try.func6, Try.ntmps6
  go_wp2_with fail
  generalize w.alloc (.cells #[.int .i64 t.op, .slice kA kn kc, .int .i32 t.rune, .slice sA sn sc, .int .i64 t.at_, .int .i64 t.cap, .string t.name, .int .i64 t.mn, .int .i64 t.mx, .bool t.lzy] 27) = w0 at HB HBX HT ⊢
  refine (head05_any _).mono ?_
  rintro e _ ⟨rfl, hb1⟩
  replace HT := Lib.hid (HT.out.on hb1)
  replace HBX := Lib.hid (HBX.out.below hb1)
  replace HB := Lib.hid (HB.out.trans (hb1.mono HB.out.size))
  clear hb1
  have h10 := HBX.out.ten
  have k0 := h10.c0
  have k1 := h10.c1
  have k2 := h10.c2
  have k3 := h10.c3
  have k4 := h10.c4
  have k5 := h10.c5
  have k6 := h10.c6
  have k7 := h10.c7
  have k8 := h10.c8
  have k9 := h10.c9
  dsimp only at k1 k3
  clear h10
  go_wp2_with fail
  refine (great_any HT.out).mono ?_
  rintro e _ ⟨b, rfl, hg, hb2⟩
  have HGR := Lib.hid hg
  clear hg
  replace HT := Lib.hid (HT.out.on hb2)
  replace HBX := Lib.hid (HBX.out.below hb2)
  replace HB := Lib.hid (HB.out.trans (hb2.mono HB.out.size))
  clear hb2
  clear k0 k1 k2 k3 k4 k5 k6 k7 k8 k9
  have h10 := HBX.out.ten
  have k0 := h10.c0
  have k1 := h10.c1
  have k2 := h10.c2
  have k3 := h10.c3
  have k4 := h10.c4
  have k5 := h10.c5
  have k6 := h10.c6
  have k7 := h10.c7
  have k8 := h10.c8
  have k9 := h10.c9
  dsimp only at k1 k3
  clear h10
  cases b with
  | true =>
    go_wp2_with fail
    go_ret
    exact ⟨rfl, HB.out⟩
  | false =>
  have hp := HGR.out rfl
  clear HGR
  go_wp2_with fail
  refine (pshaped_any HT.out hp).mono ?_
  rintro e _ ⟨v, rfl, hv, hb3⟩
  have HV := Lib.hid hv
  clear hv
  replace HT := Lib.hid (HT.out.on hb3)
  replace HBX := Lib.hid (HBX.out.below hb3)
  replace HB := Lib.hid (HB.out.trans (hb3.mono HB.out.size))
  clear hb3
  clear k0 k1 k2 k3 k4 k5 k6 k7 k8 k9
  have h10 := HBX.out.ten
  have k0 := h10.c0
  have k1 := h10.c1
  have k2 := h10.c2
  have k3 := h10.c3
  have k4 := h10.c4
  have k5 := h10.c5
  have k6 := h10.c6
  have k7 := h10.c7
  have k8 := h10.c8
  have k9 := h10.c9
  dsimp only at k1 k3
  clear h10
  go_wp2_with fail
  refine (rshaped_any t HT.out hp).mono ?_
  rintro e _ ⟨v2, rfl, hv2, hb4⟩
  obtain rfl := yes_same HV.out hv2
  clear hv2
  replace HT := Lib.hid (HT.out.on hb4)
  replace HBX := Lib.hid (HBX.out.below hb4)
  replace HB := Lib.hid (HB.out.trans (hb4.mono HB.out.size))
  clear hb4
  clear k0 k1 k2 k3 k4 k5 k6 k7 k8 k9
  have h10 := HBX.out.ten
  have k0 := h10.c0
  have k1 := h10.c1
  have k2 := h10.c2
  have k3 := h10.c3
  have k4 := h10.c4
  have k5 := h10.c5
  have k6 := h10.c6
  have k7 := h10.c7
  have k8 := h10.c8
  have k9 := h10.c9
  dsimp only at k1 k3
  clear h10
  cases v with
  | true =>
    clear HV
    go_wp2_with fail
    go_ret
    exact ⟨rfl, HB.out⟩
  | false =>
  go_wp2_with fail
  refine (tright_any HT.out hp).mono ?_
  rintro e _ ⟨u, rfl, hu, hb5⟩
  obtain rfl : u = false := by cases u with | false => rfl | true => exact absurd (HV.out.2 (hu.1 rfl).shaped) (by simp)
  clear hu HV
  replace HT := Lib.hid (HT.out.on hb5)
  replace HBX := Lib.hid (HBX.out.below hb5)
  replace HB := Lib.hid (HB.out.trans (hb5.mono HB.out.size))
  clear hb5
  clear k0 k1 k2 k3 k4 k5 k6 k7 k8 k9
  go_wp2_with fail
  go_ret
  exact ⟨rfl, HB.out⟩
end Go.Proofs.Ytbhcgjahlfpjoaa
