/- A tree's groups: the law's caps and named: the walks. -/
import Derived.Test.YtbhcgjahlfpjoaaQ17
import Derived.Test.YtbhcgjahlfpjoaaQ14
namespace Go.Proofs.Ytbhcgjahlfpjoaa
open Go.RowKit

/-- How many groups. -/
def ncap (l : List Tr) : Nat := (grp l).length
theorem ncap_app (a b : List Tr) : ncap (a ++ b) = ncap a + ncap b := by unfold ncap; rw [grp_app, List.length_append]
theorem ncap_all (t : Tr) : ncap t.all = (if t.op = 6 then 1 else 0) + ncap (Tr.allL t.kids) := by
  rw [Tr.all_eq, show t :: Tr.allL t.kids = [t] ++ Tr.allL t.kids from rfl, ncap_app]
  congr 1
  unfold ncap
  rw [grp_one]
  split <;> rfl
theorem ncap_le (l : List Tr) : ncap (Tr.allL l) ≤ Tr.partsL l := grp_parts l

set_option maxRecDepth 20000 in
set_option maxHeartbeats 4000000 in
theorem capsN_any : ∀ (t : Tr) {w : World} {kA : Option Addr} {kn kc : Nat} {sA : Option Addr} {sn sc : Nat}, TIn w t ⟨kA, kn, kc, sA, sn, sc⟩ → t.parts ≤ 20000 → Calls Try.prog 23 #[.agg #[.int .i64 t.op, .slice kA kn kc, .int .i32 t.rune, .slice sA sn sc, .int .i64 t.at_, .int .i64 t.cap, .string t.name, .int .i64 t.mn, .int .i64 t.mx, .bool t.lzy]] w (NumB (ncap t.all : Int) w) := by
  intro t
  induction t using Tr.ind with
  | h t ih =>
  intro w kA kn kc sA sn sc hT hp
  have hb : Below w.heap.size w (w.alloc (.cells #[.int .i64 t.op, .slice kA kn kc, .int .i32 t.rune, .slice sA sn sc, .int .i64 t.at_, .int .i64 t.cap, .string t.name, .int .i64 t.mn, .int .i64 t.mx, .bool t.lzy] 27)) := (Below.refl _ _).alloc (Nat.le_refl _) _
  have hB := TBox.newV w t kA kn kc sA sn sc
  have hkp : ∀ k ∈ t.kids, k.parts ≤ 20000 := fun k hk => by have := Tr.partsL_le hk; rw [Tr.parts_eq] at hp; omega
  have hkn : kn ≤ 20000 := by have := Tr.len_le_partsL t.kids; rw [Tr.parts_eq] at hp; obtain ⟨ka, hK⟩ := hT.kidsV; have := hK.len; omega
  have hpt : Tr.partsL t.kids ≤ 19999 := by rw [Tr.parts_eq] at hp; omega
  obtain ⟨ka, hK⟩ := (hT.on hb).kidsV
  have h10 := hB.ten
  have k0 := h10.c0
  have k1 := h10.c1
  have k2 := h10.c2
  have k3 := h10.c3
  have k4 := h10.c4
  have k5 := h10.c5
  have k6 := h10.c6
  have k7 := h10.c7
  have k8 := h10.c8
  have k9 := h10.c9
  dsimp only at k1 k3
  have HB := Lib.hid hb
  have HBX := Lib.hid hB
  have HK := Lib.hid hK
  have HP := Lib.hid hkp
  have HPT := Lib.hid hpt
  have IH := Lib.hid ih
  clear hb hB hkp ih hT hp h10 hK hpt
  go_enter Try.func23, Try.ntmps23
  go_upto_region 1 with fail
  generalize w.alloc (.cells #[.int .i64 t.op, .slice kA kn kc, .int .i32 t.rune, .slice sA sn sc, .int .i64 t.at_, .int .i64 t.cap, .string t.name, .int .i64 t.mn, .int .i64 t.mx, .bool t.lzy] 27) = w0 at HB HBX HK k0 k1 k2 k3 k4 k5 k6 k7 k8 k9 ⊢
  by_cases h6 : t.op = 6
  · have d0 : (t.op == 6) = true := beq_iff_eq.2 h6
    obtain ⟨c0, hc0⟩ : ∃ c0, 1 = c0 := ⟨_, rfl⟩
    have HC0 := Lib.hid hc0.symm
    have HC1 : Hid (c0 ≤ 1) := Lib.hid (by omega)
    have HCC : Hid (c0 = if t.op = 6 then 1 else 0) := Lib.hid (by rw [if_pos h6]; exact hc0.symm)
    clear h6 hc0
    go_upto_region 4 with fail
    clear k0 k1 k2 k3 k4 k5 k6 k7 k8 k9
    go_wp2_with fail
    go_loopg [4, 3] (kn + 1) (fun q i n W => ∃ j : Nat, q = kn + 1 - j ∧ j ≤ kn ∧ i = .int .i64 (j : Int) ∧ n = .int .i64 ((c0 + ncap (Tr.allL (t.kids.take j)) : Nat) : Int) ∧ Hid (Below w0.heap.size w0 W))
    case atStart => exact ⟨0, rfl, Nat.zero_le _, rfl, by rw [HC0.out]; simp [Tr.allL, ncap, grp], Lib.hid (Below.refl _ _)⟩
    case round =>
      obtain ⟨j, hgk, hj, rfl, rfl, HW⟩ := hrel
      have HG := Lib.hid hgk
      have HJ := Lib.hid hj
      have c1 := (HBX.out.below HW.out).ten.c1
      dsimp only at c1
      have hnb : c0 + ncap (Tr.allL (t.kids.take j)) ≤ 20000 := by
        have h2 := ncap_le (t.kids.take j)
        have h3 := Tr.partsL_take_le t.kids j
        have h4 := HPT.out
        have h5 := HC1.out
        omega
      clear hgk hj
      by_cases hlt : j < kn
      · obtain ⟨b, o, k, x, rfl, hb, hk, hx, hc⟩ := HK.out.at hlt
        have h10 := hc wr (.of_below HW.out (Nat.le_refl _))
        have k0 := h10.c0
        have k1 := h10.c1
        have k2 := h10.c2
        have k3 := h10.c3
        have k4 := h10.c4
        have k5 := h10.c5
        have k6 := h10.c6
        have k7 := h10.c7
        have k8 := h10.c8
        have k9 := h10.c9
        have hi : (j : Int) < (kn : Int) := by omega
        have hcall := IH.out k (List.mem_of_getElem? hk) (hx.on HW.out) (HP.out k (List.mem_of_getElem? hk))
        have hkb : ncap k.all ≤ 20000 := by
          have h1 := grp_len k.all
          have h2 := k.all_lenG
          have h3 := HP.out k (List.mem_of_getElem? hk)
          unfold ncap
          omega
        have HKK := Lib.hid hk
        have HLT := Lib.hid hlt
        clear h10 hc hx hk hb hlt
        go_wp2_with fail
        refine hcall.mono ?_
        rintro e w5 ⟨rfl, hb5⟩
        have HN : Hid (Below w0.heap.size w0 w5) := Lib.hid (HW.out.trans (hb5.mono HW.out.size))
        have hstep : ncap (Tr.allL (t.kids.take (j + 1))) = ncap (Tr.allL (t.kids.take j)) + ncap k.all := by rw [Tr.allL_take HKK.out, ncap_app]
        have HST := Lib.hid hstep
        clear hcall hb5 hstep c1 k0 k1 k2 k3 k4 k5 k6 k7 k8 k9
        generalize ncap (Tr.allL (t.kids.take j)) = a0 at hnb HST ⊢
        generalize ncap k.all = a1 at hkb HST ⊢
        have hwr : IntKind.i64.wrap (((c0 + a0 : Nat) : Int) + (a1 : Int)) = ((c0 + a0 : Nat) : Int) + (a1 : Int) := IntWalk.i64_in _ (by omega)
        have hwr2 : IntKind.i64.wrap ((c0 : Int) + (a0 : Int) + (a1 : Int)) = (c0 : Int) + (a0 : Int) + (a1 : Int) := IntWalk.i64_in _ (by omega)
        go_wp2_with fail
        go_roundg (kn + 1 - (j + 1))
        case measure => have := HG.out; have := HLT.out; omega
        case rel => exact ⟨j + 1, rfl, by have := HLT.out; omega, by go_num, by rw [HST.out]; congr 1; omega, HN⟩
      · have hi : ¬ (j : Int) < (kn : Int) := by omega
        have hall : t.kids.take j = t.kids := by rw [show j = t.kids.length by have := HK.out.len; have := HJ.out; omega, List.take_length]
        rw [hall]
        have hfin : c0 + ncap (Tr.allL t.kids) = ncap t.all := by rw [ncap_all]; exact congrArg (· + _) HCC.out
        rw [hfin]
        clear hlt hall hfin
        go_wp2_with fail
        go_ret
        exact ⟨rfl, HB.out.trans (HW.out.mono HB.out.size)⟩
  · have d0 : (t.op == 6) = false := beq_eq_false_iff_ne.2 h6
    obtain ⟨c0, hc0⟩ : ∃ c0, 0 = c0 := ⟨_, rfl⟩
    have HC0 := Lib.hid hc0.symm
    have HC1 : Hid (c0 ≤ 1) := Lib.hid (by omega)
    have HCC : Hid (c0 = if t.op = 6 then 1 else 0) := Lib.hid (by rw [if_neg h6]; exact hc0.symm)
    clear h6 hc0
    go_upto_region 4 with fail
    clear k0 k1 k2 k3 k4 k5 k6 k7 k8 k9
    go_wp2_with fail
    go_loopg [4, 3] (kn + 1) (fun q i n W => ∃ j : Nat, q = kn + 1 - j ∧ j ≤ kn ∧ i = .int .i64 (j : Int) ∧ n = .int .i64 ((c0 + ncap (Tr.allL (t.kids.take j)) : Nat) : Int) ∧ Hid (Below w0.heap.size w0 W))
    case atStart => exact ⟨0, rfl, Nat.zero_le _, rfl, by rw [HC0.out]; simp [Tr.allL, ncap, grp], Lib.hid (Below.refl _ _)⟩
    case round =>
      obtain ⟨j, hgk, hj, rfl, rfl, HW⟩ := hrel
      have HG := Lib.hid hgk
      have HJ := Lib.hid hj
      have c1 := (HBX.out.below HW.out).ten.c1
      dsimp only at c1
      have hnb : c0 + ncap (Tr.allL (t.kids.take j)) ≤ 20000 := by
        have h2 := ncap_le (t.kids.take j)
        have h3 := Tr.partsL_take_le t.kids j
        have h4 := HPT.out
        have h5 := HC1.out
        omega
      clear hgk hj
      by_cases hlt : j < kn
      · obtain ⟨b, o, k, x, rfl, hb, hk, hx, hc⟩ := HK.out.at hlt
        have h10 := hc wr (.of_below HW.out (Nat.le_refl _))
        have k0 := h10.c0
        have k1 := h10.c1
        have k2 := h10.c2
        have k3 := h10.c3
        have k4 := h10.c4
        have k5 := h10.c5
        have k6 := h10.c6
        have k7 := h10.c7
        have k8 := h10.c8
        have k9 := h10.c9
        have hi : (j : Int) < (kn : Int) := by omega
        have hcall := IH.out k (List.mem_of_getElem? hk) (hx.on HW.out) (HP.out k (List.mem_of_getElem? hk))
        have hkb : ncap k.all ≤ 20000 := by
          have h1 := grp_len k.all
          have h2 := k.all_lenG
          have h3 := HP.out k (List.mem_of_getElem? hk)
          unfold ncap
          omega
        have HKK := Lib.hid hk
        have HLT := Lib.hid hlt
        clear h10 hc hx hk hb hlt
        go_wp2_with fail
        refine hcall.mono ?_
        rintro e w5 ⟨rfl, hb5⟩
        have HN : Hid (Below w0.heap.size w0 w5) := Lib.hid (HW.out.trans (hb5.mono HW.out.size))
        have hstep : ncap (Tr.allL (t.kids.take (j + 1))) = ncap (Tr.allL (t.kids.take j)) + ncap k.all := by rw [Tr.allL_take HKK.out, ncap_app]
        have HST := Lib.hid hstep
        clear hcall hb5 hstep c1 k0 k1 k2 k3 k4 k5 k6 k7 k8 k9
        generalize ncap (Tr.allL (t.kids.take j)) = a0 at hnb HST ⊢
        generalize ncap k.all = a1 at hkb HST ⊢
        have hwr : IntKind.i64.wrap (((c0 + a0 : Nat) : Int) + (a1 : Int)) = ((c0 + a0 : Nat) : Int) + (a1 : Int) := IntWalk.i64_in _ (by omega)
        have hwr2 : IntKind.i64.wrap ((c0 : Int) + (a0 : Int) + (a1 : Int)) = (c0 : Int) + (a0 : Int) + (a1 : Int) := IntWalk.i64_in _ (by omega)
        go_wp2_with fail
        go_roundg (kn + 1 - (j + 1))
        case measure => have := HG.out; have := HLT.out; omega
        case rel => exact ⟨j + 1, rfl, by have := HLT.out; omega, by go_num, by rw [HST.out]; congr 1; omega, HN⟩
      · have hi : ¬ (j : Int) < (kn : Int) := by omega
        have hall : t.kids.take j = t.kids := by rw [show j = t.kids.length by have := HK.out.len; have := HJ.out; omega, List.take_length]
        rw [hall]
        have hfin : c0 + ncap (Tr.allL t.kids) = ncap t.all := by rw [ncap_all]; exact congrArg (· + _) HCC.out
        rw [hfin]
        clear hlt hall hfin
        go_wp2_with fail
        go_ret
        exact ⟨rfl, HB.out.trans (HW.out.mono HB.out.size)⟩
end Go.Proofs.Ytbhcgjahlfpjoaa
