/- A tree's groups: the law's named: the walk. -/
import Derived.Test.YtbhcgjahlfpjoaaQ22
namespace Go.Proofs.Ytbhcgjahlfpjoaa
open Go.RowKit

/-- Has each group the name of its number? -/
def NamedP (t : Tr) (c : List ByteArray) : Prop := ∀ q ∈ t.all, q.op = 6 → ∃ m : Nat, q.cap = (m : Int) ∧ 1 ≤ m ∧ c[m]? = some q.name
theorem NamedP.kid {t k : Tr} {c : List ByteArray} (h : NamedP t c) (hk : k ∈ t.kids) : NamedP k c := fun q hq => by
  refine h q ?_
  obtain ⟨i, hi⟩ := List.mem_iff_getElem?.1 hk
  rw [Tr.all_eq]
  have h1 := Tr.allL_take hi
  have h2 := Tr.allL_app (t.kids.take (i + 1)) (t.kids.drop (i + 1))
  rw [List.take_append_drop] at h2
  rw [h2, h1]
  exact List.mem_cons_of_mem _ (List.mem_append_left _ (List.mem_append_right _ hq))
theorem RightP.named {t : Tr} (h : RightP t) : NamedP t (capL (grp t.all)) := fun q hq h6 => by
  have hm : q ∈ grp t.all := List.mem_filter.2 ⟨hq, by simp [h6]⟩
  obtain ⟨i, hi⟩ := List.mem_iff_getElem?.1 hm
  refine ⟨i + 1, by have := (h.2.2.2 i q hi).1; omega, by omega, ?_⟩
  unfold capL
  rw [List.getElem?_cons_succ, List.getElem?_map, hi]
  rfl

set_option maxRecDepth 20000 in
set_option maxHeartbeats 4000000 in
theorem named_any (c : List ByteArray) : ∀ (t : Tr) {w : World} {kA : Option Addr} {kn kc : Nat} {sA : Option Addr} {sn sc : Nat} {C : Option Addr} {n d : Nat}, TIn w t ⟨kA, kn, kc, sA, sn, sc⟩ → t.parts ≤ 20000 → SlIn w C n d c → NamedP t c → Calls Try.prog 24 #[.agg #[.int .i64 t.op, .slice kA kn kc, .int .i32 t.rune, .slice sA sn sc, .int .i64 t.at_, .int .i64 t.cap, .string t.name, .int .i64 t.mn, .int .i64 t.mx, .bool t.lzy], .slice C n d] w fun e w' => e = .returned (.bool true) ∧ Below w.heap.size w w' := by
  intro t
  induction t using Tr.ind with
  | h t ih =>
  intro w kA kn kc sA sn sc C n d hT hp hC hN
  have hb : Below w.heap.size w (w.alloc (.cells #[.int .i64 t.op, .slice kA kn kc, .int .i32 t.rune, .slice sA sn sc, .int .i64 t.at_, .int .i64 t.cap, .string t.name, .int .i64 t.mn, .int .i64 t.mx, .bool t.lzy] 27)) := (Below.refl _ _).alloc (Nat.le_refl _) _
  have hB := TBox.newV w t kA kn kc sA sn sc
  have hkp : ∀ k ∈ t.kids, k.parts ≤ 20000 := fun k hk => by have := Tr.partsL_le hk; rw [Tr.parts_eq] at hp; omega
  have hkn : kn ≤ 20000 := by have := Tr.len_le_partsL t.kids; rw [Tr.parts_eq] at hp; obtain ⟨ka, hK⟩ := hT.kidsV; have := hK.len; omega
  have hpt : Tr.partsL t.kids ≤ 19999 := by rw [Tr.parts_eq] at hp; omega
  obtain ⟨ka, hK⟩ := (hT.on hb).kidsV
  have hnn : (n : Int) ≤ 9223372036854775807 := by have h1 := hC.max; have h2 := hC.le; unfold maxLen at h1; omega
  have HC := Lib.hid (hC.below hb)
  have HNM := Lib.hid hN
  have h10 := hB.ten
  have k0 := h10.c0
  have k1 := h10.c1
  have k2 := h10.c2
  have k3 := h10.c3
  have k4 := h10.c4
  have k5 := h10.c5
  have k6 := h10.c6
  have k7 := h10.c7
  have k8 := h10.c8
  have k9 := h10.c9
  dsimp only at k1 k3
  have HB := Lib.hid hb
  have HBX := Lib.hid hB
  have HK := Lib.hid hK
  have HP := Lib.hid hkp
  have HPT := Lib.hid hpt
  have IH := Lib.hid ih
  clear hb hB hkp ih hT hp h10 hK hpt hC hN
  go_enter Try.func24, Try.ntmps24
  go_upto_region 1 with fail
  generalize w.alloc (.cells #[.int .i64 t.op, .slice kA kn kc, .int .i32 t.rune, .slice sA sn sc, .int .i64 t.at_, .int .i64 t.cap, .string t.name, .int .i64 t.mn, .int .i64 t.mx, .bool t.lzy] 27) = w0 at HB HBX HK HC k0 k1 k2 k3 k4 k5 k6 k7 k8 k9 ⊢
  by_cases h6 : t.op = 6
  · have d0 : (t.op == 6) = true := beq_iff_eq.2 h6
    obtain ⟨m, hm, h1, hcm⟩ := HNM.out t (by rw [Tr.all_eq]; exact List.mem_cons_self ..) h6
    have hmn : m < n := by have := (List.getElem?_eq_some_iff.1 hcm).1; have := HC.out.len; omega
    obtain ⟨b, o, x, rfl, _, hx, hcc⟩ := HC.out.at hmn
    obtain rfl : x = t.name := by rw [hcm] at hx; injection hx with hx; exact hx.symm
    have cm := hcc w0 (Same.refl _ _ _)
    rw [hm] at k5
    have e1 : decide ((m : Int) < 1) = false := decide_eq_false (by omega)
    have e1b : decide (m < 1) = false := decide_eq_false (by omega)
    have e2 : decide ((n : Int) ≤ (m : Int)) = false := decide_eq_false (by omega)
    have e2b : decide (n ≤ m) = false := decide_eq_false (by omega)
    have hi0 : (m : Int) < (n : Int) := by omega
    have hm0 : ¬ m = 0 := by omega
    clear h6 hm hcm hx hcc
    go_wp2_with fail
    go_big_quiet (fail)
    go_upto_region 3 with fail
    clear k0 k1 k2 k3 k4 k5 k6 k7 k8 k9
    go_wp2_with fail
    go_loopg [5] (kn + 1) (fun q i W => ∃ j : Nat, q = kn + 1 - j ∧ j ≤ kn ∧ i = .int .i64 (j : Int) ∧ Hid (Below w0.heap.size w0 W))
    case atStart => exact ⟨0, rfl, Nat.zero_le _, rfl, Lib.hid ((Below.refl _ _).drewN)⟩
    case round =>
      obtain ⟨j, hgk, hj, rfl, HW⟩ := hrel
      have HG := Lib.hid hgk
      have HJ := Lib.hid hj
      have c1 := (HBX.out.below HW.out).ten.c1
      dsimp only at c1
      clear hgk hj
      by_cases hlt : j < kn
      · obtain ⟨b, o, k, x, rfl, hb, hk, hx, hc⟩ := HK.out.at hlt
        have h10 := hc wr (.of_below HW.out (Nat.le_refl _))
        have k0 := h10.c0
        have k1 := h10.c1
        have k2 := h10.c2
        have k3 := h10.c3
        have k4 := h10.c4
        have k5 := h10.c5
        have k6 := h10.c6
        have k7 := h10.c7
        have k8 := h10.c8
        have k9 := h10.c9
        have hi : (j : Int) < (kn : Int) := by omega
        have hcall := IH.out k (List.mem_of_getElem? hk) (hx.on HW.out) (HP.out k (List.mem_of_getElem? hk)) (HC.out.below HW.out) (HNM.out.kid (List.mem_of_getElem? hk))
        have HLT := Lib.hid hlt
        clear h10 hc hx hk hb hlt
        go_wp2_with fail
        refine hcall.mono ?_
        rintro e w5 ⟨rfl, hb5⟩
        have HN : Hid (Below w0.heap.size w0 w5) := Lib.hid (HW.out.trans (hb5.mono HW.out.size))
        clear hcall hb5 c1 k0 k1 k2 k3 k4 k5 k6 k7 k8 k9
        go_wp2_with fail
        go_roundg (kn + 1 - (j + 1))
        case measure => have := HG.out; have := HLT.out; omega
        case rel => exact ⟨j + 1, rfl, by have := HLT.out; omega, by go_num, HN⟩
      · have hi : ¬ (j : Int) < (kn : Int) := by omega
        clear hlt
        go_wp2_with fail
        go_ret
        exact ⟨rfl, HB.out.trans (HW.out.mono HB.out.size)⟩
  · have d0 : (t.op == 6) = false := beq_eq_false_iff_ne.2 h6
    clear h6
    go_wp2_with fail
    go_big_quiet (fail)
    go_upto_region 3 with fail
    clear k0 k1 k2 k3 k4 k5 k6 k7 k8 k9
    go_wp2_with fail
    go_loopg [5] (kn + 1) (fun q i W => ∃ j : Nat, q = kn + 1 - j ∧ j ≤ kn ∧ i = .int .i64 (j : Int) ∧ Hid (Below w0.heap.size w0 W))
    case atStart => exact ⟨0, rfl, Nat.zero_le _, rfl, Lib.hid ((Below.refl _ _).drewN)⟩
    case round =>
      obtain ⟨j, hgk, hj, rfl, HW⟩ := hrel
      have HG := Lib.hid hgk
      have HJ := Lib.hid hj
      have c1 := (HBX.out.below HW.out).ten.c1
      dsimp only at c1
      clear hgk hj
      by_cases hlt : j < kn
      · obtain ⟨b, o, k, x, rfl, hb, hk, hx, hc⟩ := HK.out.at hlt
        have h10 := hc wr (.of_below HW.out (Nat.le_refl _))
        have k0 := h10.c0
        have k1 := h10.c1
        have k2 := h10.c2
        have k3 := h10.c3
        have k4 := h10.c4
        have k5 := h10.c5
        have k6 := h10.c6
        have k7 := h10.c7
        have k8 := h10.c8
        have k9 := h10.c9
        have hi : (j : Int) < (kn : Int) := by omega
        have hcall := IH.out k (List.mem_of_getElem? hk) (hx.on HW.out) (HP.out k (List.mem_of_getElem? hk)) (HC.out.below HW.out) (HNM.out.kid (List.mem_of_getElem? hk))
        have HLT := Lib.hid hlt
        clear h10 hc hx hk hb hlt
        go_wp2_with fail
        refine hcall.mono ?_
        rintro e w5 ⟨rfl, hb5⟩
        have HN : Hid (Below w0.heap.size w0 w5) := Lib.hid (HW.out.trans (hb5.mono HW.out.size))
        clear hcall hb5 c1 k0 k1 k2 k3 k4 k5 k6 k7 k8 k9
        go_wp2_with fail
        go_roundg (kn + 1 - (j + 1))
        case measure => have := HG.out; have := HLT.out; omega
        case rel => exact ⟨j + 1, rfl, by have := HLT.out; omega, by go_num, HN⟩
      · have hi : ¬ (j : Int) < (kn : Int) := by omega
        clear hlt
        go_wp2_with fail
        go_ret
        exact ⟨rfl, HB.out.trans (HW.out.mono HB.out.size)⟩
end Go.Proofs.Ytbhcgjahlfpjoaa
