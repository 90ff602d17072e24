/- Is a tree right but for its groups: the reference's Shaped: the walk. -/
import Derived.Test.YtbhcgjahlfpjoaaQ12
namespace Go.Proofs.Ytbhcgjahlfpjoaa
open Go.RowKit

theorem okS_iff {t : Tr} : OkS t ↔ (FldOK t ∧ KidOK t) ∧ (t.op = 6 → 1 ≤ t.cap) := by unfold OkS; rw [okP_iff]
theorem shapedP_iff {t : Tr} : ShapedP t ↔ OkS t ∧ ∀ p ∈ Tr.allL t.kids, OkS p := by
  unfold ShapedP
  rw [Tr.all_eq]
  exact ⟨fun h => ⟨h t (List.mem_cons_self ..), fun p hp => h p (List.mem_cons_of_mem _ hp)⟩, fun ⟨h1, h2⟩ p hp => (List.mem_cons.1 hp).elim (fun e => e ▸ h1) (h2 p)⟩
theorem allL_mem {l : List Tr} {j : Nat} {k : Tr} (h : l[j]? = some k) {p : Tr} (hp : p ∈ k.all) : p ∈ Tr.allL l := by
  have h1 := Tr.allL_take h
  have h2 := Tr.allL_app (l.take (j + 1)) (l.drop (j + 1))
  rw [List.take_append_drop] at h2
  rw [h2, h1]
  exact List.mem_append_left _ (List.mem_append_right _ hp)

set_option maxRecDepth 20000 in
set_option maxHeartbeats 4000000 in
theorem rshaped_any : ∀ (t : Tr) {w : World} {kA : Option Addr} {kn kc : Nat} {sA : Option Addr} {sn sc : Nat}, TIn w t ⟨kA, kn, kc, sA, sn, sc⟩ → t.parts ≤ 20000 → Calls Try.prog 26 #[.agg #[.int .i64 t.op, .slice kA kn kc, .int .i32 t.rune, .slice sA sn sc, .int .i64 t.at_, .int .i64 t.cap, .string t.name, .int .i64 t.mn, .int .i64 t.mx, .bool t.lzy]] w (YesB (ShapedP t) w) := by
  intro t
  induction t using Tr.ind with
  | h t ih =>
  intro w kA kn kc sA sn sc hT hp
  have hb : Below w.heap.size w (w.alloc (.cells #[.int .i64 t.op, .slice kA kn kc, .int .i32 t.rune, .slice sA sn sc, .int .i64 t.at_, .int .i64 t.cap, .string t.name, .int .i64 t.mn, .int .i64 t.mx, .bool t.lzy] 27)) := (Below.refl _ _).alloc (Nat.le_refl _) _
  have hB := TBox.newV w t kA kn kc sA sn sc
  have hkp : ∀ k ∈ t.kids, k.parts ≤ 20000 := fun k hk => by have := Tr.partsL_le hk; rw [Tr.parts_eq] at hp; omega
  have hkn : kn ≤ 20000 := by have := Tr.len_le_partsL t.kids; rw [Tr.parts_eq] at hp; obtain ⟨ka, hK⟩ := hT.kidsV; have := hK.len; omega
  have h10 := hB.ten
  have k0 := h10.c0
  have k1 := h10.c1
  have k2 := h10.c2
  have k3 := h10.c3
  have k4 := h10.c4
  have k5 := h10.c5
  have k6 := h10.c6
  have k7 := h10.c7
  have k8 := h10.c8
  have k9 := h10.c9
  dsimp only at k1 k3
  have HTT := Lib.hid hT
  have HT := Lib.hid (hT.on hb)
  have HB := Lib.hid hb
  have HBX := Lib.hid hB
  have HP := Lib.hid hkp
  have IH := Lib.hid ih
  clear hb hB hkp ih hT hp h10
  go_enter Try.func26, Try.ntmps26
  go_wp2_with fail
  refine (rfields_any HT.out).mono ?_
  rintro e w1 ⟨v1, rfl, hv1, hb1⟩
  have HB1 := Lib.hid (HB.out.trans (hb1.mono HB.out.size))
  have HBX1 := Lib.hid (HBX.out.below hb1)
  have HT1 := Lib.hid (HT.out.on hb1)
  have HV1 := Lib.hid hv1
  clear k0 k1 k2 k3 k4 k5 k6 k7 k8 k9
  clear hb1 hv1 HB HBX HT
  have h10 := HBX1.out.ten
  have k0 := h10.c0
  have k1 := h10.c1
  have k2 := h10.c2
  have k3 := h10.c3
  have k4 := h10.c4
  have k5 := h10.c5
  have k6 := h10.c6
  have k7 := h10.c7
  have k8 := h10.c8
  have k9 := h10.c9
  dsimp only at k1 k3
  clear h10
  go_wp2_with fail
  refine (rkids_any HT1.out).mono ?_
  rintro e w0 ⟨v2, rfl, hv2, hb2⟩
  have HB := Lib.hid (HB1.out.trans (hb2.mono HB1.out.size))
  have HBX := Lib.hid (HBX1.out.below hb2)
  obtain ⟨ka, hK⟩ := (HT1.out.on hb2).kidsV
  have HK := Lib.hid hK
  have HV2 := Lib.hid hv2
  clear k0 k1 k2 k3 k4 k5 k6 k7 k8 k9
  clear hb2 hv2 hK HB1 HBX1 HT1
  have h10 := HBX.out.ten
  have k0 := h10.c0
  have k1 := h10.c1
  have k2 := h10.c2
  have k3 := h10.c3
  have k4 := h10.c4
  have k5 := h10.c5
  have k6 := h10.c6
  have k7 := h10.c7
  have k8 := h10.c8
  have k9 := h10.c9
  dsimp only at k1 k3
  clear h10
  have hbad : ¬ OkS t → ¬ ShapedP t := fun h hs => h (shapedP_iff.1 hs).1
  have HBAD := Lib.hid hbad
  clear hbad
  cases v1 with
  | false =>
    have hno : ¬ ShapedP t := HBAD.out fun h => by have := HV1.out.2 (okS_iff.1 h).1.1; cases this
    have HNO := Lib.hid hno
    clear hno
    go_wp2_with fail
    go_ret
    exact .no HNO.out HB.out
  | true =>
  cases v2 with
  | false =>
    have hno : ¬ ShapedP t := HBAD.out fun h => by have := HV2.out.2 (okS_iff.1 h).1.2; cases this
    have HNO := Lib.hid hno
    clear hno
    go_wp2_with fail
    go_ret
    exact .no HNO.out HB.out
  | true =>
  by_cases hc : ¬ (t.op = 6 → 1 ≤ t.cap)
  · have hno : ¬ ShapedP t := HBAD.out fun h => hc (okS_iff.1 h).2
    have HNO := Lib.hid hno
    have d6 : (t.op == 6) = true := beq_iff_eq.2 (Classical.not_imp.1 hc).1
    have d1 : decide (t.cap < 1) = true := decide_eq_true (by have := (Classical.not_imp.1 hc).2; omega)
    clear hno hc
    go_wp2_with fail
    go_ret
    exact .no HNO.out HB.out
  have hok : OkS t := okS_iff.2 ⟨⟨HV1.out.1 rfl, HV2.out.1 rfl⟩, Classical.not_not.1 hc⟩
  have HOK := Lib.hid hok
  have HCC := Lib.hid (Classical.not_not.1 hc)
  clear hok hc HBAD HV1 HV2
  have hcap : (t.op == 6) = false ∨ ((t.op == 6) = true ∧ decide (t.cap < 1) = false) := by
    by_cases h6 : t.op = 6
    · exact .inr ⟨beq_iff_eq.2 h6, decide_eq_false (by have := HCC.out h6; omega)⟩
    · exact .inl (beq_eq_false_iff_ne.2 h6)
  clear HCC
  rcases hcap with hcap | ⟨hcap, hcap1⟩
  · go_upto_region 5 with fail
    clear hcap
    clear k0 k1 k2 k3 k4 k5 k6 k7 k8 k9
    go_wp2_with fail
    go_loopg [5, 3] (kn + 1) (fun q i f W => ∃ j : Nat, q = kn + 1 - j ∧ j ≤ kn ∧ i = .int .i64 (j : Int) ∧ f = .bool true ∧ Hid (∀ p ∈ Tr.allL (t.kids.take j), OkS p) ∧ Hid (Below w0.heap.size w0 W))
    case atStart => exact ⟨0, rfl, Nat.zero_le _, rfl, rfl, Lib.hid (by simp [Tr.allL]), Lib.hid (Below.refl _ _)⟩
    case round =>
      obtain ⟨j, hgk, hj, rfl, rfl, HA, HW⟩ := hrel
      have HG := Lib.hid hgk
      have HJ := Lib.hid hj
      have c1 := (HBX.out.below HW.out).ten.c1
      dsimp only at c1
      clear hgk hj
      by_cases hlt : j < kn
      · obtain ⟨b, o, k, x, rfl, hb, hk, hx, hc⟩ := HK.out.at hlt
        have h10 := hc wr (.of_below HW.out (Nat.le_refl _))
        have k0 := h10.c0
        have k1 := h10.c1
        have k2 := h10.c2
        have k3 := h10.c3
        have k4 := h10.c4
        have k5 := h10.c5
        have k6 := h10.c6
        have k7 := h10.c7
        have k8 := h10.c8
        have k9 := h10.c9
        have hi : (j : Int) < (kn : Int) := by omega
        have hcall := IH.out k (List.mem_of_getElem? hk) (hx.on HW.out) (HP.out k (List.mem_of_getElem? hk))
        have HKK := Lib.hid hk
        have HLT := Lib.hid hlt
        have hbad : ¬ ShapedP k → ¬ ShapedP t := fun h hs => h fun p hp' => (shapedP_iff.1 hs).2 p (allL_mem HKK.out hp')
        have HBAD := Lib.hid hbad
        clear h10 hc hx hk hb hlt hbad
        go_wp2_with fail
        refine hcall.mono ?_
        rintro e w5 ⟨v, rfl, hv, hb5⟩
        have HN : Hid (Below w0.heap.size w0 w5) := Lib.hid (HW.out.trans (hb5.mono HW.out.size))
        have HV := Lib.hid hv
        clear hcall hb5 hv c1 k0 k1 k2 k3 k4 k5 k6 k7 k8 k9
        cases v with
        | false =>
          have hno : ¬ ShapedP t := HBAD.out fun h => by have := HV.out.2 h; cases this
          have HNO := Lib.hid hno
          clear hno
          go_wp2_with fail
          go_ret
          exact .no HNO.out (HB.out.trans (HN.out.mono HB.out.size))
        | true =>
          have hstep : ∀ p ∈ Tr.allL (t.kids.take (j + 1)), OkS p := fun p hp' => by
            rw [Tr.allL_take HKK.out] at hp'
            exact (List.mem_append.1 hp').elim (HA.out p) (HV.out.1 rfl p)
          have HST := Lib.hid hstep
          clear hstep
          go_wp2_with fail
          go_roundg (kn + 1 - (j + 1))
          case measure => have := HG.out; have := HLT.out; omega
          case rel => exact ⟨j + 1, rfl, by have := HLT.out; omega, by go_num, rfl, HST, HN⟩
      · have hi : ¬ (j : Int) < (kn : Int) := by omega
        have hall : t.kids.take j = t.kids := by rw [show j = t.kids.length by have := HK.out.len; have := HJ.out; omega, List.take_length]
        rw [hall] at HA
        have hyes := shapedP_iff.2 ⟨HOK.out, HA.out⟩
        have HYES := Lib.hid hyes
        clear hlt hall hyes
        go_wp2_with fail
        go_ret
        exact .yes HYES.out (HB.out.trans (HW.out.mono HB.out.size))
  · go_upto_region 5 with fail
    clear hcap hcap1
    clear k0 k1 k2 k3 k4 k5 k6 k7 k8 k9
    go_wp2_with fail
    go_loopg [5, 3] (kn + 1) (fun q i f W => ∃ j : Nat, q = kn + 1 - j ∧ j ≤ kn ∧ i = .int .i64 (j : Int) ∧ f = .bool true ∧ Hid (∀ p ∈ Tr.allL (t.kids.take j), OkS p) ∧ Hid (Below w0.heap.size w0 W))
    case atStart => exact ⟨0, rfl, Nat.zero_le _, rfl, rfl, Lib.hid (by simp [Tr.allL]), Lib.hid (Below.refl _ _)⟩
    case round =>
      obtain ⟨j, hgk, hj, rfl, rfl, HA, HW⟩ := hrel
      have HG := Lib.hid hgk
      have HJ := Lib.hid hj
      have c1 := (HBX.out.below HW.out).ten.c1
      dsimp only at c1
      clear hgk hj
      by_cases hlt : j < kn
      · obtain ⟨b, o, k, x, rfl, hb, hk, hx, hc⟩ := HK.out.at hlt
        have h10 := hc wr (.of_below HW.out (Nat.le_refl _))
        have k0 := h10.c0
        have k1 := h10.c1
        have k2 := h10.c2
        have k3 := h10.c3
        have k4 := h10.c4
        have k5 := h10.c5
        have k6 := h10.c6
        have k7 := h10.c7
        have k8 := h10.c8
        have k9 := h10.c9
        have hi : (j : Int) < (kn : Int) := by omega
        have hcall := IH.out k (List.mem_of_getElem? hk) (hx.on HW.out) (HP.out k (List.mem_of_getElem? hk))
        have HKK := Lib.hid hk
        have HLT := Lib.hid hlt
        have hbad : ¬ ShapedP k → ¬ ShapedP t := fun h hs => h fun p hp' => (shapedP_iff.1 hs).2 p (allL_mem HKK.out hp')
        have HBAD := Lib.hid hbad
        clear h10 hc hx hk hb hlt hbad
        go_wp2_with fail
        refine hcall.mono ?_
        rintro e w5 ⟨v, rfl, hv, hb5⟩
        have HN : Hid (Below w0.heap.size w0 w5) := Lib.hid (HW.out.trans (hb5.mono HW.out.size))
        have HV := Lib.hid hv
        clear hcall hb5 hv c1 k0 k1 k2 k3 k4 k5 k6 k7 k8 k9
        cases v with
        | false =>
          have hno : ¬ ShapedP t := HBAD.out fun h => by have := HV.out.2 h; cases this
          have HNO := Lib.hid hno
          clear hno
          go_wp2_with fail
          go_ret
          exact .no HNO.out (HB.out.trans (HN.out.mono HB.out.size))
        | true =>
          have hstep : ∀ p ∈ Tr.allL (t.kids.take (j + 1)), OkS p := fun p hp' => by
            rw [Tr.allL_take HKK.out] at hp'
            exact (List.mem_append.1 hp').elim (HA.out p) (HV.out.1 rfl p)
          have HST := Lib.hid hstep
          clear hstep
          go_wp2_with fail
          go_roundg (kn + 1 - (j + 1))
          case measure => have := HG.out; have := HLT.out; omega
          case rel => exact ⟨j + 1, rfl, by have := HLT.out; omega, by go_num, rfl, HST, HN⟩
      · have hi : ¬ (j : Int) < (kn : Int) := by omega
        have hall : t.kids.take j = t.kids := by rw [show j = t.kids.length by have := HK.out.len; have := HJ.out; omega, List.take_length]
        rw [hall] at HA
        have hyes := shapedP_iff.2 ⟨HOK.out, HA.out⟩
        have HYES := Lib.hid hyes
        clear hlt hall hyes
        go_wp2_with fail
        go_ret
        exact .yes HYES.out (HB.out.trans (HW.out.mono HB.out.size))
end Go.Proofs.Ytbhcgjahlfpjoaa
