/- Does a tree fit nothing more: the reference's still and Still: the walks. -/
import Derived.Test.YtbhcgjahlfpjoaaQ18
namespace Go.Proofs.Ytbhcgjahlfpjoaa
open Go.RowKit

/-- Has a part no rune of its own? -/
def StillO (t : Tr) : Prop := t.op ≠ 3 ∧ t.op ≠ 4
/-- Does a tree never fit more than nothing? -/
def StillP (t : Tr) : Prop := ∀ q ∈ t.all, StillO q
theorem stillP_iff {t : Tr} : StillP t ↔ StillO t ∧ ∀ q ∈ Tr.allL t.kids, StillO q := by
  unfold StillP
  rw [Tr.all_eq]
  exact ⟨fun h => ⟨h t (List.mem_cons_self ..), fun q hq => h q (List.mem_cons_of_mem _ hq)⟩, fun ⟨h1, h2⟩ q hq => (List.mem_cons.1 hq).elim (fun e => e ▸ h1) (h2 q)⟩

set_option maxRecDepth 20000 in
set_option maxHeartbeats 4000000 in
theorem rstill_any : ∀ (t : Tr) {w : World} {kA : Option Addr} {kn kc : Nat} {sA : Option Addr} {sn sc : Nat}, TIn w t ⟨kA, kn, kc, sA, sn, sc⟩ → t.parts ≤ 20000 → Calls Try.prog 65 #[.agg #[.int .i64 t.op, .slice kA kn kc, .int .i32 t.rune, .slice sA sn sc, .int .i64 t.at_, .int .i64 t.cap, .string t.name, .int .i64 t.mn, .int .i64 t.mx, .bool t.lzy]] w (YesB (StillP t) w) := by
  intro t
  induction t using Tr.ind with
  | h t ih =>
  intro w kA kn kc sA sn sc hT hp
  have hb : Below w.heap.size w (w.alloc (.cells #[.int .i64 t.op, .slice kA kn kc, .int .i32 t.rune, .slice sA sn sc, .int .i64 t.at_, .int .i64 t.cap, .string t.name, .int .i64 t.mn, .int .i64 t.mx, .bool t.lzy] 27)) := (Below.refl _ _).alloc (Nat.le_refl _) _
  have hB := TBox.newV w t kA kn kc sA sn sc
  have hkp : ∀ k ∈ t.kids, k.parts ≤ 20000 := fun k hk => by have := Tr.partsL_le hk; rw [Tr.parts_eq] at hp; omega
  have hkn : kn ≤ 20000 := by have := Tr.len_le_partsL t.kids; rw [Tr.parts_eq] at hp; obtain ⟨ka, hK⟩ := hT.kidsV; have := hK.len; omega
  obtain ⟨ka, hK⟩ := (hT.on hb).kidsV
  have h10 := hB.ten
  have k0 := h10.c0
  have k1 := h10.c1
  have k2 := h10.c2
  have k3 := h10.c3
  have k4 := h10.c4
  have k5 := h10.c5
  have k6 := h10.c6
  have k7 := h10.c7
  have k8 := h10.c8
  have k9 := h10.c9
  dsimp only at k1 k3
  have HK := Lib.hid hK
  have HB := Lib.hid hb
  have HBX := Lib.hid hB
  have HP := Lib.hid hkp
  have IH := Lib.hid ih
  clear hb hB hkp ih hT hp h10 hK
  go_enter Try.func65, Try.ntmps65
  go_upto_region 1 with fail
  generalize w.alloc (.cells #[.int .i64 t.op, .slice kA kn kc, .int .i32 t.rune, .slice sA sn sc, .int .i64 t.at_, .int .i64 t.cap, .string t.name, .int .i64 t.mn, .int .i64 t.mx, .bool t.lzy] 27) = w0 at HB HBX HK k0 k1 k2 k3 k4 k5 k6 k7 k8 k9 ⊢
  by_cases h3 : t.op = 3
  · have d3 : (t.op == 3) = true := beq_iff_eq.2 h3
    have hno : ¬ StillP t := fun h => (stillP_iff.1 h).1.1 h3
    have HNO := Lib.hid hno
    clear hno h3
    go_wp2_with fail
    go_ret
    exact .no HNO.out HB.out
  have d3 : (t.op == 3) = false := beq_eq_false_iff_ne.2 h3
  by_cases h4 : t.op = 4
  · have d4 : (t.op == 4) = true := beq_iff_eq.2 h4
    have hno : ¬ StillP t := fun h => (stillP_iff.1 h).1.2 h4
    have HNO := Lib.hid hno
    clear hno h3 h4
    go_wp2_with fail
    go_ret
    exact .no HNO.out HB.out
  have d4 : (t.op == 4) = false := beq_eq_false_iff_ne.2 h4
  have HOK : Hid (StillO t) := Lib.hid ⟨h3, h4⟩
  clear h3 h4
  go_upto_region 3 with fail
  clear k0 k1 k2 k3 k4 k5 k6 k7 k8 k9
  go_wp2_with fail
  go_loopg [3] (kn + 1) (fun q i W => ∃ j : Nat, q = kn + 1 - j ∧ j ≤ kn ∧ i = .int .i64 (j : Int) ∧ Hid (∀ p ∈ Tr.allL (t.kids.take j), StillO p) ∧ Hid (Below w0.heap.size w0 W))
  case atStart => exact ⟨0, rfl, Nat.zero_le _, rfl, Lib.hid (by simp [Tr.allL]), Lib.hid (Below.refl _ _)⟩
  case round =>
    obtain ⟨j, hgk, hj, rfl, HA, HW⟩ := hrel
    have HG := Lib.hid hgk
    have HJ := Lib.hid hj
    have c1 := (HBX.out.below HW.out).ten.c1
    dsimp only at c1
    clear hgk hj
    by_cases hlt : j < kn
    · obtain ⟨b, o, k, x, rfl, hb, hk, hx, hc⟩ := HK.out.at hlt
      have h10 := hc wr (.of_below HW.out (Nat.le_refl _))
      have k0 := h10.c0
      have k1 := h10.c1
      have k2 := h10.c2
      have k3 := h10.c3
      have k4 := h10.c4
      have k5 := h10.c5
      have k6 := h10.c6
      have k7 := h10.c7
      have k8 := h10.c8
      have k9 := h10.c9
      have hi : (j : Int) < (kn : Int) := by omega
      have hcall := IH.out k (List.mem_of_getElem? hk) (hx.on HW.out) (HP.out k (List.mem_of_getElem? hk))
      have HKK := Lib.hid hk
      have HLT := Lib.hid hlt
      have hbad : ¬ StillP k → ¬ StillP t := fun h hs => h fun p hp' => (stillP_iff.1 hs).2 p (allL_mem HKK.out hp')
      have HBAD := Lib.hid hbad
      clear h10 hc hx hk hb hlt hbad
      go_wp2_with fail
      refine hcall.mono ?_
      rintro e w5 ⟨v, rfl, hv, hb5⟩
      have HN : Hid (Below w0.heap.size w0 w5) := Lib.hid (HW.out.trans (hb5.mono HW.out.size))
      have HV := Lib.hid hv
      clear hcall hb5 hv c1 k0 k1 k2 k3 k4 k5 k6 k7 k8 k9
      cases v with
      | false =>
        have hno : ¬ StillP t := HBAD.out fun h => by have := HV.out.2 h; cases this
        have HNO := Lib.hid hno
        clear hno
        go_wp2_with fail
        go_ret
        exact .no HNO.out (HB.out.trans (HN.out.mono HB.out.size))
      | true =>
        have hstep : ∀ p ∈ Tr.allL (t.kids.take (j + 1)), StillO p := fun p hp' => by
          rw [Tr.allL_take HKK.out] at hp'
          exact (List.mem_append.1 hp').elim (HA.out p) (HV.out.1 rfl p)
        have HST := Lib.hid hstep
        clear hstep
        go_wp2_with fail
        go_roundg (kn + 1 - (j + 1))
        case measure => have := HG.out; have := HLT.out; omega
        case rel => exact ⟨j + 1, rfl, by have := HLT.out; omega, by go_num, HST, HN⟩
    · have hi : ¬ (j : Int) < (kn : Int) := by omega
      have hall : t.kids.take j = t.kids := by rw [show j = t.kids.length by have := HK.out.len; have := HJ.out; omega, List.take_length]
      rw [hall] at HA
      have hyes := stillP_iff.2 ⟨HOK.out, HA.out⟩
      have HYES := Lib.hid hyes
      clear hlt hall hyes
      go_wp2_with fail
      go_ret
      exact .yes HYES.out (HB.out.trans (HW.out.mono HB.out.size))
set_option maxRecDepth 20000 in
set_option maxHeartbeats 4000000 in
theorem rStill_any {w : World} {t : Tr} {kA : Option Addr} {kn kc : Nat} {sA : Option Addr} {sn sc : Nat} (hT : TIn w t ⟨kA, kn, kc, sA, sn, sc⟩) (hp : t.parts ≤ 20000) : Calls Try.prog 30 #[.agg #[.int .i64 t.op, .slice kA kn kc, .int .i32 t.rune, .slice sA sn sc, .int .i64 t.at_, .int .i64 t.cap, .string t.name, .int .i64 t.mn, .int .i64 t.mx, .bool t.lzy]] w (YesB (RightP t ∧ StillP t) w) := by
  have hb : Below w.heap.size w (w.alloc (.cells #[.int .i64 t.op, .slice kA kn kc, .int .i32 t.rune, .slice sA sn sc, .int .i64 t.at_, .int .i64 t.cap, .string t.name, .int .i64 t.mn, .int .i64 t.mx, .bool t.lzy] 27)) := (Below.refl _ _).alloc (Nat.le_refl _) _
  have hB := TBox.newV w t kA kn kc sA sn sc
  have HT := Lib.hid (hT.on hb)
  have HB := Lib.hid hb
  have HBX := Lib.hid hB
  clear hb hB hT
  have h10 := HBX.out.ten
  have k0 := h10.c0
  have k1 := h10.c1
  have k2 := h10.c2
  have k3 := h10.c3
  have k4 := h10.c4
  have k5 := h10.c5
  have k6 := h10.c6
  have k7 := h10.c7
  have k8 := h10.c8
  have k9 := h10.c9
  dsimp only at k1 k3
  clear h10
  go_enter Try.func30, Try.ntmps30
  go_wp2_with fail
  generalize w.alloc (.cells #[.int .i64 t.op, .slice kA kn kc, .int .i32 t.rune, .slice sA sn sc, .int .i64 t.at_, .int .i64 t.cap, .string t.name, .int .i64 t.mn, .int .i64 t.mx, .bool t.lzy] 27) = w0 at HB HBX HT k0 k1 k2 k3 k4 k5 k6 k7 k8 k9 ⊢
  refine (rright_any HT.out hp).mono ?_
  rintro e w1 ⟨v, rfl, hv, hb1⟩
  have HV := Lib.hid hv
  clear hv
  replace HT := Lib.hid (HT.out.on hb1)
  replace HBX := Lib.hid (HBX.out.below hb1)
  replace HB := Lib.hid (HB.out.trans (hb1.mono HB.out.size))
  clear hb1
  clear k0 k1 k2 k3 k4 k5 k6 k7 k8 k9
  have h10 := HBX.out.ten
  have k0 := h10.c0
  have k1 := h10.c1
  have k2 := h10.c2
  have k3 := h10.c3
  have k4 := h10.c4
  have k5 := h10.c5
  have k6 := h10.c6
  have k7 := h10.c7
  have k8 := h10.c8
  have k9 := h10.c9
  dsimp only at k1 k3
  clear h10
  cases v with
  | false =>
    have hno : ¬ (RightP t ∧ StillP t) := fun h => by have := HV.out.2 h.1; cases this
    have HNO := Lib.hid hno
    clear hno
    go_wp2_with fail
    go_ret
    exact .no HNO.out HB.out
  | true =>
  have HR := Lib.hid (HV.out.1 rfl)
  clear HV
  go_wp2_with fail
  refine (rstill_any t HT.out hp).mono ?_
  rintro e w2 ⟨u, rfl, hu, hb2⟩
  have HU := Lib.hid hu
  clear hu
  replace HT := Lib.hid (HT.out.on hb2)
  replace HBX := Lib.hid (HBX.out.below hb2)
  replace HB := Lib.hid (HB.out.trans (hb2.mono HB.out.size))
  clear hb2
  clear k0 k1 k2 k3 k4 k5 k6 k7 k8 k9
  go_wp2_with fail
  go_ret
  exact ⟨u, rfl, HU.out.trans ⟨fun h => ⟨HR.out, h⟩, fun h => h.2⟩, HB.out⟩
end Go.Proofs.Ytbhcgjahlfpjoaa
