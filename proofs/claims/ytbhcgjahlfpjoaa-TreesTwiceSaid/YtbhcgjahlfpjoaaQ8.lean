/- May a part of a tree be: trees.plain: the walk. -/
import Derived.Test.YtbhcgjahlfpjoaaQ6
import Derived.Test.YtbhcgjahlfpjoaaQ7
import Derived.Test.YtbhcgjahlfpjoaaIl1
namespace Go.Proofs.Ytbhcgjahlfpjoaa
open Go.RowKit

theorem setRight_any {w : World} {A : Option Addr} {n c : Nat} {l : List Rg} (hA : RgIn w A n c l) (hn : n ≤ 1000000) : Calls Try.prog 83 #[.slice A n c] w (YesB (Canon l) w) := by
  refine (right_any hA hn).mono ?_
  rintro e w' ⟨⟨s, hs, he⟩, hb⟩
  refine ⟨_, he, ?_, hb⟩
  rw [decide_eq_true_iff]
  exact ⟨fun h => by rw [h]; exact hs.canon, fun h => (SetOf.self h).unique hs fun _ _ _ => Iff.rfl⟩
def AtT : List Int := [1, 2, 4, 8, 16, 32]
/-- May a part of a tree be? -/
structure OkP (t : Tr) : Prop where
  op : 1 ≤ t.op ∧ t.op ≤ 12
  rune : t.op ≠ 3 → t.rune = 0
  set : t.op ≠ 4 → t.set.length = 0
  at_ : t.op ≠ 5 → t.at_ = 0
  cap : t.op ≠ 6 → t.cap = 0
  name : t.op ≠ 6 → t.name = ⟨#[]⟩
  mn : t.op ≠ 10 → t.mn = 0
  mx : t.op ≠ 10 → t.mx = 0
  lzy : ¬ (t.op = 7 ∨ t.op = 8 ∨ t.op = 9 ∨ t.op = 10) → t.lzy = false
  rune3 : t.op = 3 → 0 ≤ t.rune ∧ t.rune ≤ 1114111
  set4 : t.op = 4 → 0 < t.set.length ∧ Canon t.set
  at5 : t.op = 5 → t.at_ ∈ AtT
  name6 : t.op = 6 → t.name = ⟨#[]⟩ ∨ NameOk t.name
  rep10 : t.op = 10 → 0 ≤ t.mn ∧ t.mn ≤ 1000 ∧ (t.mx = -1 ∨ (t.mn ≤ t.mx ∧ t.mx ≤ 1000))
  kids1 : 6 ≤ t.op → t.op ≤ 10 → t.kids.length = 1
  kids12 : t.op = 12 → 1 ≤ t.kids.length
  kids0 : t.op < 6 → t.kids.length = 0
theorem empty_name {s : ByteArray} : s.toList.isEmpty = true ↔ s = ⟨#[]⟩ := by
  rw [ByteArray.toList_eq]
  constructor
  · intro h
    cases s with
    | mk d => rw [List.isEmpty_iff] at h; congr 1; exact Array.toList_eq_nil_iff.1 h
  · rintro rfl; rfl

set_option maxRecDepth 100000 in
set_option maxHeartbeats 16000000 in
theorem plain_any {w : World} {t : Tr} {kA : Option Addr} {kn kc : Nat} {sA : Option Addr} {sn sc : Nat} (hT : TIn w t ⟨kA, kn, kc, sA, sn, sc⟩) (hp : sn ≤ 1000000) : Calls Try.prog 57 #[.agg #[.int .i64 t.op, .slice kA kn kc, .int .i32 t.rune, .slice sA sn sc, .int .i64 t.at_, .int .i64 t.cap, .string t.name, .int .i64 t.mn, .int .i64 t.mx, .bool t.lzy]] w (YesB (OkP t) w) := by
  have hb : Below w.heap.size w (w.alloc (.cells #[.int .i64 t.op, .slice kA kn kc, .int .i32 t.rune, .slice sA sn sc, .int .i64 t.at_, .int .i64 t.cap, .string t.name, .int .i64 t.mn, .int .i64 t.mx, .bool t.lzy] 27)) := (Below.refl _ _).alloc (Nat.le_refl _) _
  have hB := TBox.newV w t kA kn kc sA sn sc
  have HT := Lib.hid (hT.on hb)
  have HB := Lib.hid hb
  have HBX := Lib.hid hB
  have hkl : t.kids.length = kn := by obtain ⟨ka, hK⟩ := hT.kidsV; exact hK.len
  have hsl : t.set.length = sn := hT.set.len
  have hkm : (kn : Int) ≤ 9223372036854775807 := by obtain ⟨ka, hK⟩ := hT.kidsV; have h1 := hK.max; have h2 := hK.le; unfold maxLen at h1; omega
  have hnm := hT.name
  have h10 := hB.ten
  have k0 := h10.c0
  have k1 := h10.c1
  have k2 := h10.c2
  have k3 := h10.c3
  have k4 := h10.c4
  have k5 := h10.c5
  have k6 := h10.c6
  have k7 := h10.c7
  have k8 := h10.c8
  have k9 := h10.c9
  dsimp only at k1 k3
  have HKL := Lib.hid hkl
  have HSL := Lib.hid hsl
  have HNM := Lib.hid hnm
  clear hb hB hT h10 hkl hsl hnm
  go_enter Try.func57, Try.ntmps57
  go_wp2_with fail
  refine bare_any.mono ?_
  rintro e w5 ⟨b, x, hR, rfl, hb5⟩
  have HR := Lib.hid hR
  have hW2 := HB.out.trans (hb5.mono HB.out.size)
  have HT2 := Lib.hid (HT.out.on hb5)
  have HBX2 := Lib.hid (HBX.out.below hb5)
  have HW2 := Lib.hid hW2
  clear k0 k1 k2 k3 k4 k5 k6 k7 k8 k9 hb5 hR hW2 HT HBX HB
  go_upto_region 2 with fail
  have hbb := TBox.newA w5 b x
  have hbe : Below w5.heap.size w5 (w5.alloc (.cells #[.int .i64 b.op, .slice x.kA x.kn x.kc, .int .i32 b.rune, .slice x.sA x.sn x.sc, .int .i64 b.at_, .int .i64 b.cap, .string b.name, .int .i64 b.mn, .int .i64 b.mx, .bool b.lzy] 27)) := (Below.refl _ _).alloc (Nat.le_refl _) _
  have HT := Lib.hid (HT2.out.on hbe)
  have hBX := HBX2.out.below hbe
  have HB := Lib.hid (HW2.out.trans (hbe.mono HW2.out.size))
  clear HT2 HBX2 HW2
  generalize w5.heap.size = gb at hbb hBX ⊢
  generalize w5.alloc (.cells #[.int .i64 b.op, .slice x.kA x.kn x.kc, .int .i32 b.rune, .slice x.sA x.sn x.sc, .int .i64 b.at_, .int .i64 b.cap, .string b.name, .int .i64 b.mn, .int .i64 b.mx, .bool b.lzy] 27) = W at hbb hbe hBX HT HB ⊢
  have h10 := hbb.ten
  have b0 := h10.c0
  have b1 := h10.c1
  have b2 := h10.c2
  have b3 := h10.c3
  have b4 := h10.c4
  have b5 := h10.c5
  have b6 := h10.c6
  have b7 := h10.c7
  have b8 := h10.c8
  have b9 := h10.c9
  clear h10
  have h10 := hBX.ten
  have k0 := h10.c0
  have k1 := h10.c1
  have k2 := h10.c2
  have k3 := h10.c3
  have k4 := h10.c4
  have k5 := h10.c5
  have k6 := h10.c6
  have k7 := h10.c7
  have k8 := h10.c8
  have k9 := h10.c9
  dsimp only at k1 k3
  have HBXW := Lib.hid hBX
  clear h10 hbb hbe hBX
  by_cases e0 : b.rune = t.rune
  case neg =>
    have f0 : (b.rune != t.rune) = true := by simp [e0]
    have hno : ¬ OkP t := fun h => by
      have hr := HR.out.rune
      split at hr
      · exact e0 hr
      · rename_i hne
        have := h.rune hne
        exact e0 (hr.trans this.symm)
    have HNO := Lib.hid hno
    clear hno e0
    go_wp2_with fail
    go_ret
    exact .no HNO.out HB.out
  have f0 : (b.rune != t.rune) = false := by rw [e0]; simp
  have G0 : Hid (t.op ≠ 3 → t.rune = 0) := Lib.hid fun hne => by have hr := HR.out.rune; rw [if_neg hne] at hr; exact e0.symm.trans hr
  clear e0
  by_cases e1 : x.sn = sn
  case neg =>
    have f1 : ((x.sn : Int) != (sn : Int)) = true := by rw [bne_iff_ne]; intro h; exact e1 (by omega)
    have f1b : (x.sn != sn) = true := by rw [bne_iff_ne]; exact e1
    have hno : ¬ OkP t := fun h => by
      have hr := HR.out.sn
      split at hr
      · exact e1 hr
      · rename_i hne
        have := h.set hne
        exact e1 (by rw [hr]; rw [HSL.out] at this; exact this.symm)
    have HNO := Lib.hid hno
    clear hno e1
    go_wp2_with fail
    go_ret
    exact .no HNO.out HB.out
  have f1 : ((x.sn : Int) != (sn : Int)) = false := by rw [bne_eq_false_iff_eq, e1]
  have f1b : (x.sn != sn) = false := by rw [bne_eq_false_iff_eq, e1]
  have G1 : Hid (t.op ≠ 4 → sn = 0) := Lib.hid fun hne => by have hr := HR.out.sn; rw [if_neg hne] at hr; exact e1.symm.trans hr
  clear e1
  by_cases e2 : b.at_ = t.at_
  case neg =>
    have f2 : (b.at_ != t.at_) = true := by simp [e2]
    have hno : ¬ OkP t := fun h => by
      have hr := HR.out.at_
      split at hr
      · exact e2 hr
      · rename_i hne
        have := h.at_ hne
        exact e2 (hr.trans this.symm)
    have HNO := Lib.hid hno
    clear hno e2
    go_wp2_with fail
    go_ret
    exact .no HNO.out HB.out
  have f2 : (b.at_ != t.at_) = false := by rw [e2]; simp
  have G2 : Hid (t.op ≠ 5 → t.at_ = 0) := Lib.hid fun hne => by have hr := HR.out.at_; rw [if_neg hne] at hr; exact e2.symm.trans hr
  clear e2
  by_cases e3 : b.cap = t.cap
  case neg =>
    have f3 : (b.cap != t.cap) = true := by simp [e3]
    have hno : ¬ OkP t := fun h => by
      have hr := HR.out.cap
      split at hr
      · exact e3 hr
      · rename_i hne
        have := h.cap hne
        exact e3 (hr.trans this.symm)
    have HNO := Lib.hid hno
    clear hno e3
    go_wp2_with fail
    go_ret
    exact .no HNO.out HB.out
  have f3 : (b.cap != t.cap) = false := by rw [e3]; simp
  have G3 : Hid (t.op ≠ 6 → t.cap = 0) := Lib.hid fun hne => by have hr := HR.out.cap; rw [if_neg hne] at hr; exact e3.symm.trans hr
  clear e3
  by_cases e4 : b.name = t.name
  case neg =>
    have f4a : ¬ b.name.toList = t.name.toList := fun h => e4 (by rw [ByteArray.toList_eq, ByteArray.toList_eq] at h; cases hb : b.name with | mk d => cases ht : t.name with | mk d' => rw [hb, ht] at h; congr 1; exact Array.toList_inj.1 h)
    have f4 : (b.name.toList == t.name.toList) = false := beq_eq_false_iff_ne.2 f4a
    have f4b : decide (b.name.toList = t.name.toList) = false := decide_eq_false f4a
    have hno : ¬ OkP t := fun h => by
      have hr := HR.out.name
      split at hr
      · exact e4 hr
      · rename_i hne
        have := h.name hne
        exact e4 (hr.trans this.symm)
    have HNO := Lib.hid hno
    clear hno e4
    go_wp2_with fail
    go_ret
    exact .no HNO.out HB.out
  have f4 : b.name.toList = t.name.toList := by rw [e4]
  have G4 : Hid (t.op ≠ 6 → t.name = ⟨#[]⟩) := Lib.hid fun hne => by have hr := HR.out.name; rw [if_neg hne] at hr; exact e4.symm.trans hr
  clear e4
  by_cases e5 : b.mn = t.mn
  case neg =>
    have f5 : (b.mn != t.mn) = true := by simp [e5]
    have hno : ¬ OkP t := fun h => by
      have hr := HR.out.mn
      split at hr
      · exact e5 hr
      · rename_i hne
        have := h.mn hne
        exact e5 (hr.trans this.symm)
    have HNO := Lib.hid hno
    clear hno e5
    go_wp2_with fail
    go_ret
    exact .no HNO.out HB.out
  have f5 : (b.mn != t.mn) = false := by rw [e5]; simp
  have G5 : Hid (t.op ≠ 10 → t.mn = 0) := Lib.hid fun hne => by have hr := HR.out.mn; rw [if_neg hne] at hr; exact e5.symm.trans hr
  clear e5
  by_cases e6 : b.mx = t.mx
  case neg =>
    have f6 : (b.mx != t.mx) = true := by simp [e6]
    have hno : ¬ OkP t := fun h => by
      have hr := HR.out.mx
      split at hr
      · exact e6 hr
      · rename_i hne
        have := h.mx hne
        exact e6 (hr.trans this.symm)
    have HNO := Lib.hid hno
    clear hno e6
    go_wp2_with fail
    go_ret
    exact .no HNO.out HB.out
  have f6 : (b.mx != t.mx) = false := by rw [e6]; simp
  have G6 : Hid (t.op ≠ 10 → t.mx = 0) := Lib.hid fun hne => by have hr := HR.out.mx; rw [if_neg hne] at hr; exact e6.symm.trans hr
  clear e6
  by_cases e7 : b.lzy = t.lzy
  case neg =>
    have f7 : ((!b.lzy) == t.lzy) = true := by revert e7; cases b.lzy <;> cases t.lzy <;> simp
    have f7b : (b.lzy != t.lzy) = true := by revert e7; cases b.lzy <;> cases t.lzy <;> simp
    have f7c : (b.lzy == t.lzy) = false := by revert e7; cases b.lzy <;> cases t.lzy <;> simp
    have hno : ¬ OkP t := fun h => by
      have hr := HR.out.lzy
      split at hr
      · exact e7 hr
      · rename_i hne
        have := h.lzy hne
        exact e7 (hr.trans this.symm)
    have HNO := Lib.hid hno
    clear hno e7
    go_wp2_with fail
    go_ret
    exact .no HNO.out HB.out
  have f7 : ((!b.lzy) == t.lzy) = false := by revert e7; cases b.lzy <;> cases t.lzy <;> simp
  have f7b : (b.lzy != t.lzy) = false := by revert e7; cases b.lzy <;> cases t.lzy <;> simp
  have f7c : (b.lzy == t.lzy) = true := by revert e7; cases b.lzy <;> cases t.lzy <;> simp
  have G7 : Hid (¬ (t.op = 7 ∨ t.op = 8 ∨ t.op = 9 ∨ t.op = 10) → t.lzy = false) := Lib.hid fun hne => by have hr := HR.out.lzy; rw [if_neg hne] at hr; exact e7.symm.trans hr
  clear e7
  go_upto_region 4 with fail
  clear f0 f1 f1b f2 f3 f4 f5 f6 f7 f7b f7c b0 b1 b2 b3 b4 b5 b6 b7 b8 b9
  by_cases hop : t.op = 1
  case pos =>
    have d1 : (t.op == 1) = true := by rw [hop]; rfl
    have d2 : (t.op == 2) = false := by rw [hop]; rfl
    have d3 : (t.op == 3) = false := by rw [hop]; rfl
    have d4 : (t.op == 4) = false := by rw [hop]; rfl
    have d5 : (t.op == 5) = false := by rw [hop]; rfl
    have d6 : (t.op == 6) = false := by rw [hop]; rfl
    have d7 : (t.op == 7) = false := by rw [hop]; rfl
    have d8 : (t.op == 8) = false := by rw [hop]; rfl
    have d9 : (t.op == 9) = false := by rw [hop]; rfl
    have d10 : (t.op == 10) = false := by rw [hop]; rfl
    have d11 : (t.op == 11) = false := by rw [hop]; rfl
    have d12 : (t.op == 12) = false := by rw [hop]; rfl
    by_cases c0 : kn = 0
    case neg =>
      have q0 : (kn == 0) = false := beq_eq_false_iff_ne.2 (by omega)
      have q0b : ((kn : Int) == 0) = false := beq_eq_false_iff_ne.2 (by omega)
      have q0c : decide (kn = 0) = false := decide_eq_false (by omega)
      have hno : ¬ OkP t := fun h => by (have := h.kids0 (by omega); rw [HKL.out] at this; omega)
      have HNO := Lib.hid hno
      clear hno
      go_wp2_with fail
      go_ret
      exact .no HNO.out HB.out
    have q0 : (kn == 0) = true := beq_iff_eq.2 (by omega)
    have q0b : ((kn : Int) == 0) = true := beq_iff_eq.2 (by omega)
    have q0c : decide (kn = 0) = true := decide_eq_true (by omega)
    have hok : OkP t := { op := by omega, rune := G0.out, set := fun h => by rw [HSL.out]; exact G1.out h, at_ := G2.out, cap := G3.out, name := G4.out, mn := G5.out, mx := G6.out, lzy := G7.out, rune3 := fun h => absurd h (by omega), set4 := fun h => absurd h (by omega), at5 := fun h => absurd h (by omega), name6 := fun h => absurd h (by omega), rep10 := fun h => absurd h (by omega), kids1 := fun h1 h2 => by rw [HKL.out]; omega, kids12 := fun h => by rw [HKL.out]; omega, kids0 := fun h => by rw [HKL.out]; omega }
    have HOK := Lib.hid hok
    clear hok
    go_wp2_with fail
    go_ret
    exact .yes HOK.out HB.out
  have n1 : ¬ t.op = 1 := hop
  clear hop
  by_cases hop : t.op = 2
  case pos =>
    have d1 : (t.op == 1) = false := by rw [hop]; rfl
    have d2 : (t.op == 2) = true := by rw [hop]; rfl
    have d3 : (t.op == 3) = false := by rw [hop]; rfl
    have d4 : (t.op == 4) = false := by rw [hop]; rfl
    have d5 : (t.op == 5) = false := by rw [hop]; rfl
    have d6 : (t.op == 6) = false := by rw [hop]; rfl
    have d7 : (t.op == 7) = false := by rw [hop]; rfl
    have d8 : (t.op == 8) = false := by rw [hop]; rfl
    have d9 : (t.op == 9) = false := by rw [hop]; rfl
    have d10 : (t.op == 10) = false := by rw [hop]; rfl
    have d11 : (t.op == 11) = false := by rw [hop]; rfl
    have d12 : (t.op == 12) = false := by rw [hop]; rfl
    by_cases c0 : kn = 0
    case neg =>
      have q0 : (kn == 0) = false := beq_eq_false_iff_ne.2 (by omega)
      have q0b : ((kn : Int) == 0) = false := beq_eq_false_iff_ne.2 (by omega)
      have q0c : decide (kn = 0) = false := decide_eq_false (by omega)
      have hno : ¬ OkP t := fun h => by (have := h.kids0 (by omega); rw [HKL.out] at this; omega)
      have HNO := Lib.hid hno
      clear hno
      go_wp2_with fail
      go_ret
      exact .no HNO.out HB.out
    have q0 : (kn == 0) = true := beq_iff_eq.2 (by omega)
    have q0b : ((kn : Int) == 0) = true := beq_iff_eq.2 (by omega)
    have q0c : decide (kn = 0) = true := decide_eq_true (by omega)
    have hok : OkP t := { op := by omega, rune := G0.out, set := fun h => by rw [HSL.out]; exact G1.out h, at_ := G2.out, cap := G3.out, name := G4.out, mn := G5.out, mx := G6.out, lzy := G7.out, rune3 := fun h => absurd h (by omega), set4 := fun h => absurd h (by omega), at5 := fun h => absurd h (by omega), name6 := fun h => absurd h (by omega), rep10 := fun h => absurd h (by omega), kids1 := fun h1 h2 => by rw [HKL.out]; omega, kids12 := fun h => by rw [HKL.out]; omega, kids0 := fun h => by rw [HKL.out]; omega }
    have HOK := Lib.hid hok
    clear hok
    go_wp2_with fail
    go_ret
    exact .yes HOK.out HB.out
  have n2 : ¬ t.op = 2 := hop
  clear hop
  by_cases hop : t.op = 3
  case pos =>
    have d1 : (t.op == 1) = false := by rw [hop]; rfl
    have d2 : (t.op == 2) = false := by rw [hop]; rfl
    have d3 : (t.op == 3) = true := by rw [hop]; rfl
    have d4 : (t.op == 4) = false := by rw [hop]; rfl
    have d5 : (t.op == 5) = false := by rw [hop]; rfl
    have d6 : (t.op == 6) = false := by rw [hop]; rfl
    have d7 : (t.op == 7) = false := by rw [hop]; rfl
    have d8 : (t.op == 8) = false := by rw [hop]; rfl
    have d9 : (t.op == 9) = false := by rw [hop]; rfl
    have d10 : (t.op == 10) = false := by rw [hop]; rfl
    have d11 : (t.op == 11) = false := by rw [hop]; rfl
    have d12 : (t.op == 12) = false := by rw [hop]; rfl
    by_cases c0 : kn = 0
    case neg =>
      have q0 : (kn == 0) = false := beq_eq_false_iff_ne.2 (by omega)
      have q0b : ((kn : Int) == 0) = false := beq_eq_false_iff_ne.2 (by omega)
      have q0c : decide (kn = 0) = false := decide_eq_false (by omega)
      have hno : ¬ OkP t := fun h => by (have := h.kids0 (by omega); rw [HKL.out] at this; omega)
      have HNO := Lib.hid hno
      clear hno
      go_wp2_with fail
      go_ret
      exact .no HNO.out HB.out
    have q0 : (kn == 0) = true := beq_iff_eq.2 (by omega)
    have q0b : ((kn : Int) == 0) = true := beq_iff_eq.2 (by omega)
    have q0c : decide (kn = 0) = true := decide_eq_true (by omega)
    by_cases c1 : 0 ≤ t.rune
    case neg =>
      have ra : decide (0 ≤ t.rune) = false := decide_eq_false (by omega)
      have hno : ¬ OkP t := fun h => by (have := h.rune3 hop; omega)
      have HNO := Lib.hid hno
      clear hno
      go_wp2_with fail
      go_ret
      exact .no HNO.out HB.out
    have ra : decide (0 ≤ t.rune) = true := decide_eq_true (by omega)
    by_cases c2 : t.rune ≤ 1114111
    case neg =>
      have sa : decide (t.rune ≤ 1114111) = false := decide_eq_false (by omega)
      have hno : ¬ OkP t := fun h => by (have := h.rune3 hop; omega)
      have HNO := Lib.hid hno
      clear hno
      go_wp2_with fail
      go_ret
      exact .no HNO.out HB.out
    have sa : decide (t.rune ≤ 1114111) = true := decide_eq_true (by omega)
    have hok : OkP t := { op := by omega, rune := G0.out, set := fun h => by rw [HSL.out]; exact G1.out h, at_ := G2.out, cap := G3.out, name := G4.out, mn := G5.out, mx := G6.out, lzy := G7.out, rune3 := fun _ => ⟨c1, c2⟩, set4 := fun h => absurd h (by omega), at5 := fun h => absurd h (by omega), name6 := fun h => absurd h (by omega), rep10 := fun h => absurd h (by omega), kids1 := fun h1 h2 => by rw [HKL.out]; omega, kids12 := fun h => by rw [HKL.out]; omega, kids0 := fun h => by rw [HKL.out]; omega }
    have HOK := Lib.hid hok
    clear hok
    go_wp2_with fail
    go_ret
    exact .yes HOK.out HB.out
  have n3 : ¬ t.op = 3 := hop
  clear hop
  by_cases hop : t.op = 4
  case pos =>
    have d1 : (t.op == 1) = false := by rw [hop]; rfl
    have d2 : (t.op == 2) = false := by rw [hop]; rfl
    have d3 : (t.op == 3) = false := by rw [hop]; rfl
    have d4 : (t.op == 4) = true := by rw [hop]; rfl
    have d5 : (t.op == 5) = false := by rw [hop]; rfl
    have d6 : (t.op == 6) = false := by rw [hop]; rfl
    have d7 : (t.op == 7) = false := by rw [hop]; rfl
    have d8 : (t.op == 8) = false := by rw [hop]; rfl
    have d9 : (t.op == 9) = false := by rw [hop]; rfl
    have d10 : (t.op == 10) = false := by rw [hop]; rfl
    have d11 : (t.op == 11) = false := by rw [hop]; rfl
    have d12 : (t.op == 12) = false := by rw [hop]; rfl
    by_cases c0 : kn = 0
    case neg =>
      have q0 : (kn == 0) = false := beq_eq_false_iff_ne.2 (by omega)
      have q0b : ((kn : Int) == 0) = false := beq_eq_false_iff_ne.2 (by omega)
      have q0c : decide (kn = 0) = false := decide_eq_false (by omega)
      have hno : ¬ OkP t := fun h => by (have := h.kids0 (by omega); rw [HKL.out] at this; omega)
      have HNO := Lib.hid hno
      clear hno
      go_wp2_with fail
      go_ret
      exact .no HNO.out HB.out
    have q0 : (kn == 0) = true := beq_iff_eq.2 (by omega)
    have q0b : ((kn : Int) == 0) = true := beq_iff_eq.2 (by omega)
    have q0c : decide (kn = 0) = true := decide_eq_true (by omega)
    by_cases c1 : 0 < sn
    case neg =>
      have ra : decide ((0 : Int) < (sn : Int)) = false := decide_eq_false (by omega)
      have rb : decide (0 < sn) = false := decide_eq_false (by omega)
      have hno : ¬ OkP t := fun h => by (have := (h.set4 hop).1; rw [HSL.out] at this; omega)
      have HNO := Lib.hid hno
      clear hno
      go_wp2_with fail
      go_ret
      exact .no HNO.out HB.out
    have ra : decide ((0 : Int) < (sn : Int)) = true := decide_eq_true (by omega)
    have rb : decide (0 < sn) = true := decide_eq_true (by omega)
    by_cases c2 : Canon t.set
    case neg =>
      have hno : ¬ OkP t := fun h => by (exact c2 (h.set4 hop).2)
      have HNO := Lib.hid hno
      clear hno
      go_wp2_with fail
      refine (setRight_any HT.out.set hp).mono ?_
      rintro e V ⟨v, rfl, hv, hbv⟩
      obtain rfl : v = false := by cases v with | false => rfl | true => exact absurd (hv.1 rfl) c2
      have HV := Lib.hid (HB.out.trans (hbv.mono HB.out.size))
      clear hv hbv
      go_wp2_with fail
      go_ret
      exact .no HNO.out HV.out
    have hok : OkP t := { op := by omega, rune := G0.out, set := fun h => by rw [HSL.out]; exact G1.out h, at_ := G2.out, cap := G3.out, name := G4.out, mn := G5.out, mx := G6.out, lzy := G7.out, rune3 := fun h => absurd h (by omega), set4 := fun _ => ⟨by rw [HSL.out]; omega, c2⟩, at5 := fun h => absurd h (by omega), name6 := fun h => absurd h (by omega), rep10 := fun h => absurd h (by omega), kids1 := fun h1 h2 => by rw [HKL.out]; omega, kids12 := fun h => by rw [HKL.out]; omega, kids0 := fun h => by rw [HKL.out]; omega }
    have HOK := Lib.hid hok
    clear hok
    go_wp2_with fail
    refine (setRight_any HT.out.set hp).mono ?_
    rintro e V ⟨v, rfl, hv, hbv⟩
    obtain rfl : v = true := hv.2 c2
    have HV := Lib.hid (HB.out.trans (hbv.mono HB.out.size))
    clear hv hbv
    go_wp2_with fail
    go_ret
    exact .yes HOK.out HV.out
  have n4 : ¬ t.op = 4 := hop
  clear hop
  by_cases hop : t.op = 5
  case pos =>
    have d1 : (t.op == 1) = false := by rw [hop]; rfl
    have d2 : (t.op == 2) = false := by rw [hop]; rfl
    have d3 : (t.op == 3) = false := by rw [hop]; rfl
    have d4 : (t.op == 4) = false := by rw [hop]; rfl
    have d5 : (t.op == 5) = true := by rw [hop]; rfl
    have d6 : (t.op == 6) = false := by rw [hop]; rfl
    have d7 : (t.op == 7) = false := by rw [hop]; rfl
    have d8 : (t.op == 8) = false := by rw [hop]; rfl
    have d9 : (t.op == 9) = false := by rw [hop]; rfl
    have d10 : (t.op == 10) = false := by rw [hop]; rfl
    have d11 : (t.op == 11) = false := by rw [hop]; rfl
    have d12 : (t.op == 12) = false := by rw [hop]; rfl
    by_cases c0 : kn = 0
    case neg =>
      have q0 : (kn == 0) = false := beq_eq_false_iff_ne.2 (by omega)
      have q0b : ((kn : Int) == 0) = false := beq_eq_false_iff_ne.2 (by omega)
      have q0c : decide (kn = 0) = false := decide_eq_false (by omega)
      have hno : ¬ OkP t := fun h => by (have := h.kids0 (by omega); rw [HKL.out] at this; omega)
      have HNO := Lib.hid hno
      clear hno
      go_wp2_with fail
      go_ret
      exact .no HNO.out HB.out
    have q0 : (kn == 0) = true := beq_iff_eq.2 (by omega)
    have q0b : ((kn : Int) == 0) = true := beq_iff_eq.2 (by omega)
    have q0c : decide (kn = 0) = true := decide_eq_true (by omega)
    by_cases c1 : t.at_ ∈ AtT
    case neg =>
      have hAt := containsAt_any (IlIn.lit W 25 AtT (by decide)) t.at_
      rw [decide_eq_false c1] at hAt
      have cC : Calls Try.prog 84 #[.slice (some ⟨W.heap.size, 0, none⟩) 6 6, .int .i64 t.at_] (W.alloc (.cells #[.int .i64 1, .int .i64 2, .int .i64 4, .int .i64 8, .int .i64 16, .int .i64 32] 25)) (fun e w' => e = .returned (.bool false) ∧ W.alloc (.cells #[.int .i64 1, .int .i64 2, .int .i64 4, .int .i64 8, .int .i64 16, .int .i64 32] 25) = w') := hAt
      have HV := Lib.hid (HB.out.alloc HB.out.size (.cells #[.int .i64 1, .int .i64 2, .int .i64 4, .int .i64 8, .int .i64 16, .int .i64 32] 25))
      have k4b := (HBXW.out.below (show Below W.heap.size W (W.alloc (.cells #[.int .i64 1, .int .i64 2, .int .i64 4, .int .i64 8, .int .i64 16, .int .i64 32] 25)) from (Below.refl _ _).alloc (Nat.le_refl _) _)).ten.c4
      clear hAt
      have hno : ¬ OkP t := fun h => by (exact c1 (h.at5 hop))
      have HNO := Lib.hid hno
      clear hno
      go_wp2_with fail
      refine cC.mono ?_
      rintro e V ⟨rfl, rfl⟩
      clear cC
      go_wp2_with fail
      go_ret
      exact .no HNO.out HV.out
    have hAt := containsAt_any (IlIn.lit W 25 AtT (by decide)) t.at_
    rw [decide_eq_true c1] at hAt
    have cC : Calls Try.prog 84 #[.slice (some ⟨W.heap.size, 0, none⟩) 6 6, .int .i64 t.at_] (W.alloc (.cells #[.int .i64 1, .int .i64 2, .int .i64 4, .int .i64 8, .int .i64 16, .int .i64 32] 25)) (fun e w' => e = .returned (.bool true) ∧ W.alloc (.cells #[.int .i64 1, .int .i64 2, .int .i64 4, .int .i64 8, .int .i64 16, .int .i64 32] 25) = w') := hAt
    have HV := Lib.hid (HB.out.alloc HB.out.size (.cells #[.int .i64 1, .int .i64 2, .int .i64 4, .int .i64 8, .int .i64 16, .int .i64 32] 25))
    have k4b := (HBXW.out.below (show Below W.heap.size W (W.alloc (.cells #[.int .i64 1, .int .i64 2, .int .i64 4, .int .i64 8, .int .i64 16, .int .i64 32] 25)) from (Below.refl _ _).alloc (Nat.le_refl _) _)).ten.c4
    clear hAt
    have hok : OkP t := { op := by omega, rune := G0.out, set := fun h => by rw [HSL.out]; exact G1.out h, at_ := G2.out, cap := G3.out, name := G4.out, mn := G5.out, mx := G6.out, lzy := G7.out, rune3 := fun h => absurd h (by omega), set4 := fun h => absurd h (by omega), at5 := fun _ => c1, name6 := fun h => absurd h (by omega), rep10 := fun h => absurd h (by omega), kids1 := fun h1 h2 => by rw [HKL.out]; omega, kids12 := fun h => by rw [HKL.out]; omega, kids0 := fun h => by rw [HKL.out]; omega }
    have HOK := Lib.hid hok
    clear hok
    go_wp2_with fail
    refine cC.mono ?_
    rintro e V ⟨rfl, rfl⟩
    clear cC
    go_wp2_with fail
    go_ret
    exact .yes HOK.out HV.out
  have n5 : ¬ t.op = 5 := hop
  clear hop
  by_cases hop : t.op = 6
  case pos =>
    have d1 : (t.op == 1) = false := by rw [hop]; rfl
    have d2 : (t.op == 2) = false := by rw [hop]; rfl
    have d3 : (t.op == 3) = false := by rw [hop]; rfl
    have d4 : (t.op == 4) = false := by rw [hop]; rfl
    have d5 : (t.op == 5) = false := by rw [hop]; rfl
    have d6 : (t.op == 6) = true := by rw [hop]; rfl
    have d7 : (t.op == 7) = false := by rw [hop]; rfl
    have d8 : (t.op == 8) = false := by rw [hop]; rfl
    have d9 : (t.op == 9) = false := by rw [hop]; rfl
    have d10 : (t.op == 10) = false := by rw [hop]; rfl
    have d11 : (t.op == 11) = false := by rw [hop]; rfl
    have d12 : (t.op == 12) = false := by rw [hop]; rfl
    by_cases c0 : kn = 1
    case neg =>
      have q1 : (kn == 1) = false := beq_eq_false_iff_ne.2 (by omega)
      have q1b : ((kn : Int) == 1) = false := beq_eq_false_iff_ne.2 (by omega)
      have q1c : decide (kn = 1) = false := decide_eq_false (by omega)
      have hno : ¬ OkP t := fun h => by (have := h.kids1 (by omega) (by omega); rw [HKL.out] at this; omega)
      have HNO := Lib.hid hno
      clear hno
      go_wp2_with fail
      go_ret
      exact .no HNO.out HB.out
    have q1 : (kn == 1) = true := beq_iff_eq.2 (by omega)
    have q1b : ((kn : Int) == 1) = true := beq_iff_eq.2 (by omega)
    have q1c : decide (kn = 1) = true := decide_eq_true (by omega)
    by_cases c1 : ¬ t.name = ⟨#[]⟩
    case neg =>
      have c1 := Classical.not_not.1 c1
      have m0 : t.name.toList.isEmpty = true := empty_name.2 c1
      have hok : OkP t := { op := by omega, rune := G0.out, set := fun h => by rw [HSL.out]; exact G1.out h, at_ := G2.out, cap := G3.out, name := G4.out, mn := G5.out, mx := G6.out, lzy := G7.out, rune3 := fun h => absurd h (by omega), set4 := fun h => absurd h (by omega), at5 := fun h => absurd h (by omega), name6 := fun _ => .inl c1, rep10 := fun h => absurd h (by omega), kids1 := fun h1 h2 => by rw [HKL.out]; omega, kids12 := fun h => by rw [HKL.out]; omega, kids0 := fun h => by rw [HKL.out]; omega }
      have HOK := Lib.hid hok
      clear hok
      go_wp2_with fail
      go_ret
      exact .yes HOK.out HB.out
    have m0 : t.name.toList.isEmpty = false := by cases hh : t.name.toList.isEmpty with | false => rfl | true => exact absurd (empty_name.1 hh) c1
    by_cases c2 : NameOk t.name
    case neg =>
      have hno : ¬ OkP t := fun h => by (exact (h.name6 hop).elim c1 c2)
      have HNO := Lib.hid hno
      clear hno
      go_wp2_with fail
      refine (pname_any t.name HNM.out _).mono ?_
      rintro e V ⟨v, rfl, hv, hbv⟩
      obtain rfl : v = false := by cases v with | false => rfl | true => exact absurd (hv.1 rfl) c2
      have HV := Lib.hid (HB.out.trans (hbv.mono HB.out.size))
      clear hv hbv
      go_wp2_with fail
      go_ret
      exact .no HNO.out HV.out
    have hok : OkP t := { op := by omega, rune := G0.out, set := fun h => by rw [HSL.out]; exact G1.out h, at_ := G2.out, cap := G3.out, name := G4.out, mn := G5.out, mx := G6.out, lzy := G7.out, rune3 := fun h => absurd h (by omega), set4 := fun h => absurd h (by omega), at5 := fun h => absurd h (by omega), name6 := fun _ => .inr c2, rep10 := fun h => absurd h (by omega), kids1 := fun h1 h2 => by rw [HKL.out]; omega, kids12 := fun h => by rw [HKL.out]; omega, kids0 := fun h => by rw [HKL.out]; omega }
    have HOK := Lib.hid hok
    clear hok
    go_wp2_with fail
    refine (pname_any t.name HNM.out _).mono ?_
    rintro e V ⟨v, rfl, hv, hbv⟩
    obtain rfl : v = true := hv.2 c2
    have HV := Lib.hid (HB.out.trans (hbv.mono HB.out.size))
    clear hv hbv
    go_wp2_with fail
    go_ret
    exact .yes HOK.out HV.out
  have n6 : ¬ t.op = 6 := hop
  clear hop
  by_cases hop : t.op = 7
  case pos =>
    have d1 : (t.op == 1) = false := by rw [hop]; rfl
    have d2 : (t.op == 2) = false := by rw [hop]; rfl
    have d3 : (t.op == 3) = false := by rw [hop]; rfl
    have d4 : (t.op == 4) = false := by rw [hop]; rfl
    have d5 : (t.op == 5) = false := by rw [hop]; rfl
    have d6 : (t.op == 6) = false := by rw [hop]; rfl
    have d7 : (t.op == 7) = true := by rw [hop]; rfl
    have d8 : (t.op == 8) = false := by rw [hop]; rfl
    have d9 : (t.op == 9) = false := by rw [hop]; rfl
    have d10 : (t.op == 10) = false := by rw [hop]; rfl
    have d11 : (t.op == 11) = false := by rw [hop]; rfl
    have d12 : (t.op == 12) = false := by rw [hop]; rfl
    by_cases c0 : kn = 1
    case neg =>
      have q1 : (kn == 1) = false := beq_eq_false_iff_ne.2 (by omega)
      have q1b : ((kn : Int) == 1) = false := beq_eq_false_iff_ne.2 (by omega)
      have q1c : decide (kn = 1) = false := decide_eq_false (by omega)
      have hno : ¬ OkP t := fun h => by (have := h.kids1 (by omega) (by omega); rw [HKL.out] at this; omega)
      have HNO := Lib.hid hno
      clear hno
      go_wp2_with fail
      go_ret
      exact .no HNO.out HB.out
    have q1 : (kn == 1) = true := beq_iff_eq.2 (by omega)
    have q1b : ((kn : Int) == 1) = true := beq_iff_eq.2 (by omega)
    have q1c : decide (kn = 1) = true := decide_eq_true (by omega)
    have hok : OkP t := { op := by omega, rune := G0.out, set := fun h => by rw [HSL.out]; exact G1.out h, at_ := G2.out, cap := G3.out, name := G4.out, mn := G5.out, mx := G6.out, lzy := G7.out, rune3 := fun h => absurd h (by omega), set4 := fun h => absurd h (by omega), at5 := fun h => absurd h (by omega), name6 := fun h => absurd h (by omega), rep10 := fun h => absurd h (by omega), kids1 := fun h1 h2 => by rw [HKL.out]; omega, kids12 := fun h => by rw [HKL.out]; omega, kids0 := fun h => by rw [HKL.out]; omega }
    have HOK := Lib.hid hok
    clear hok
    go_wp2_with fail
    go_ret
    exact .yes HOK.out HB.out
  have n7 : ¬ t.op = 7 := hop
  clear hop
  by_cases hop : t.op = 8
  case pos =>
    have d1 : (t.op == 1) = false := by rw [hop]; rfl
    have d2 : (t.op == 2) = false := by rw [hop]; rfl
    have d3 : (t.op == 3) = false := by rw [hop]; rfl
    have d4 : (t.op == 4) = false := by rw [hop]; rfl
    have d5 : (t.op == 5) = false := by rw [hop]; rfl
    have d6 : (t.op == 6) = false := by rw [hop]; rfl
    have d7 : (t.op == 7) = false := by rw [hop]; rfl
    have d8 : (t.op == 8) = true := by rw [hop]; rfl
    have d9 : (t.op == 9) = false := by rw [hop]; rfl
    have d10 : (t.op == 10) = false := by rw [hop]; rfl
    have d11 : (t.op == 11) = false := by rw [hop]; rfl
    have d12 : (t.op == 12) = false := by rw [hop]; rfl
    by_cases c0 : kn = 1
    case neg =>
      have q1 : (kn == 1) = false := beq_eq_false_iff_ne.2 (by omega)
      have q1b : ((kn : Int) == 1) = false := beq_eq_false_iff_ne.2 (by omega)
      have q1c : decide (kn = 1) = false := decide_eq_false (by omega)
      have hno : ¬ OkP t := fun h => by (have := h.kids1 (by omega) (by omega); rw [HKL.out] at this; omega)
      have HNO := Lib.hid hno
      clear hno
      go_wp2_with fail
      go_ret
      exact .no HNO.out HB.out
    have q1 : (kn == 1) = true := beq_iff_eq.2 (by omega)
    have q1b : ((kn : Int) == 1) = true := beq_iff_eq.2 (by omega)
    have q1c : decide (kn = 1) = true := decide_eq_true (by omega)
    have hok : OkP t := { op := by omega, rune := G0.out, set := fun h => by rw [HSL.out]; exact G1.out h, at_ := G2.out, cap := G3.out, name := G4.out, mn := G5.out, mx := G6.out, lzy := G7.out, rune3 := fun h => absurd h (by omega), set4 := fun h => absurd h (by omega), at5 := fun h => absurd h (by omega), name6 := fun h => absurd h (by omega), rep10 := fun h => absurd h (by omega), kids1 := fun h1 h2 => by rw [HKL.out]; omega, kids12 := fun h => by rw [HKL.out]; omega, kids0 := fun h => by rw [HKL.out]; omega }
    have HOK := Lib.hid hok
    clear hok
    go_wp2_with fail
    go_ret
    exact .yes HOK.out HB.out
  have n8 : ¬ t.op = 8 := hop
  clear hop
  by_cases hop : t.op = 9
  case pos =>
    have d1 : (t.op == 1) = false := by rw [hop]; rfl
    have d2 : (t.op == 2) = false := by rw [hop]; rfl
    have d3 : (t.op == 3) = false := by rw [hop]; rfl
    have d4 : (t.op == 4) = false := by rw [hop]; rfl
    have d5 : (t.op == 5) = false := by rw [hop]; rfl
    have d6 : (t.op == 6) = false := by rw [hop]; rfl
    have d7 : (t.op == 7) = false := by rw [hop]; rfl
    have d8 : (t.op == 8) = false := by rw [hop]; rfl
    have d9 : (t.op == 9) = true := by rw [hop]; rfl
    have d10 : (t.op == 10) = false := by rw [hop]; rfl
    have d11 : (t.op == 11) = false := by rw [hop]; rfl
    have d12 : (t.op == 12) = false := by rw [hop]; rfl
    by_cases c0 : kn = 1
    case neg =>
      have q1 : (kn == 1) = false := beq_eq_false_iff_ne.2 (by omega)
      have q1b : ((kn : Int) == 1) = false := beq_eq_false_iff_ne.2 (by omega)
      have q1c : decide (kn = 1) = false := decide_eq_false (by omega)
      have hno : ¬ OkP t := fun h => by (have := h.kids1 (by omega) (by omega); rw [HKL.out] at this; omega)
      have HNO := Lib.hid hno
      clear hno
      go_wp2_with fail
      go_ret
      exact .no HNO.out HB.out
    have q1 : (kn == 1) = true := beq_iff_eq.2 (by omega)
    have q1b : ((kn : Int) == 1) = true := beq_iff_eq.2 (by omega)
    have q1c : decide (kn = 1) = true := decide_eq_true (by omega)
    have hok : OkP t := { op := by omega, rune := G0.out, set := fun h => by rw [HSL.out]; exact G1.out h, at_ := G2.out, cap := G3.out, name := G4.out, mn := G5.out, mx := G6.out, lzy := G7.out, rune3 := fun h => absurd h (by omega), set4 := fun h => absurd h (by omega), at5 := fun h => absurd h (by omega), name6 := fun h => absurd h (by omega), rep10 := fun h => absurd h (by omega), kids1 := fun h1 h2 => by rw [HKL.out]; omega, kids12 := fun h => by rw [HKL.out]; omega, kids0 := fun h => by rw [HKL.out]; omega }
    have HOK := Lib.hid hok
    clear hok
    go_wp2_with fail
    go_ret
    exact .yes HOK.out HB.out
  have n9 : ¬ t.op = 9 := hop
  clear hop
  by_cases hop : t.op = 10
  case pos =>
    have d1 : (t.op == 1) = false := by rw [hop]; rfl
    have d2 : (t.op == 2) = false := by rw [hop]; rfl
    have d3 : (t.op == 3) = false := by rw [hop]; rfl
    have d4 : (t.op == 4) = false := by rw [hop]; rfl
    have d5 : (t.op == 5) = false := by rw [hop]; rfl
    have d6 : (t.op == 6) = false := by rw [hop]; rfl
    have d7 : (t.op == 7) = false := by rw [hop]; rfl
    have d8 : (t.op == 8) = false := by rw [hop]; rfl
    have d9 : (t.op == 9) = false := by rw [hop]; rfl
    have d10 : (t.op == 10) = true := by rw [hop]; rfl
    have d11 : (t.op == 11) = false := by rw [hop]; rfl
    have d12 : (t.op == 12) = false := by rw [hop]; rfl
    by_cases c0 : kn = 1
    case neg =>
      have q1 : (kn == 1) = false := beq_eq_false_iff_ne.2 (by omega)
      have q1b : ((kn : Int) == 1) = false := beq_eq_false_iff_ne.2 (by omega)
      have q1c : decide (kn = 1) = false := decide_eq_false (by omega)
      have hno : ¬ OkP t := fun h => by (have := h.kids1 (by omega) (by omega); rw [HKL.out] at this; omega)
      have HNO := Lib.hid hno
      clear hno
      go_wp2_with fail
      go_ret
      exact .no HNO.out HB.out
    have q1 : (kn == 1) = true := beq_iff_eq.2 (by omega)
    have q1b : ((kn : Int) == 1) = true := beq_iff_eq.2 (by omega)
    have q1c : decide (kn = 1) = true := decide_eq_true (by omega)
    by_cases c1 : 0 ≤ t.mn
    case neg =>
      have ra : decide (0 ≤ t.mn) = false := decide_eq_false (by omega)
      have hno : ¬ OkP t := fun h => by (have := h.rep10 hop; omega)
      have HNO := Lib.hid hno
      clear hno
      go_wp2_with fail
      go_ret
      exact .no HNO.out HB.out
    have ra : decide (0 ≤ t.mn) = true := decide_eq_true (by omega)
    by_cases c2 : t.mn ≤ 1000
    case neg =>
      have sa : decide (t.mn ≤ 1000) = false := decide_eq_false (by omega)
      have hno : ¬ OkP t := fun h => by (have := h.rep10 hop; omega)
      have HNO := Lib.hid hno
      clear hno
      go_wp2_with fail
      go_ret
      exact .no HNO.out HB.out
    have sa : decide (t.mn ≤ 1000) = true := decide_eq_true (by omega)
    by_cases c3 : ¬ t.mx = -1
    case neg =>
      have c3 := Classical.not_not.1 c3
      have u0 : (t.mx == -1) = true := beq_iff_eq.2 c3
      have hok : OkP t := { op := by omega, rune := G0.out, set := fun h => by rw [HSL.out]; exact G1.out h, at_ := G2.out, cap := G3.out, name := G4.out, mn := G5.out, mx := G6.out, lzy := G7.out, rune3 := fun h => absurd h (by omega), set4 := fun h => absurd h (by omega), at5 := fun h => absurd h (by omega), name6 := fun h => absurd h (by omega), rep10 := fun _ => ⟨c1, c2, .inl c3⟩, kids1 := fun h1 h2 => by rw [HKL.out]; omega, kids12 := fun h => by rw [HKL.out]; omega, kids0 := fun h => by rw [HKL.out]; omega }
      have HOK := Lib.hid hok
      clear hok
      go_wp2_with fail
      go_ret
      exact .yes HOK.out HB.out
    have u0 : (t.mx == -1) = false := beq_eq_false_iff_ne.2 c3
    by_cases c4 : t.mn ≤ t.mx
    case neg =>
      have va : decide (t.mn ≤ t.mx) = false := decide_eq_false (by omega)
      have hno : ¬ OkP t := fun h => by (have := h.rep10 hop; omega)
      have HNO := Lib.hid hno
      clear hno
      go_wp2_with fail
      go_ret
      exact .no HNO.out HB.out
    have va : decide (t.mn ≤ t.mx) = true := decide_eq_true (by omega)
    by_cases c5 : t.mx ≤ 1000
    case neg =>
      have xa : decide (t.mx ≤ 1000) = false := decide_eq_false (by omega)
      have hno : ¬ OkP t := fun h => by (have := h.rep10 hop; omega)
      have HNO := Lib.hid hno
      clear hno
      go_wp2_with fail
      go_ret
      exact .no HNO.out HB.out
    have xa : decide (t.mx ≤ 1000) = true := decide_eq_true (by omega)
    have hok : OkP t := { op := by omega, rune := G0.out, set := fun h => by rw [HSL.out]; exact G1.out h, at_ := G2.out, cap := G3.out, name := G4.out, mn := G5.out, mx := G6.out, lzy := G7.out, rune3 := fun h => absurd h (by omega), set4 := fun h => absurd h (by omega), at5 := fun h => absurd h (by omega), name6 := fun h => absurd h (by omega), rep10 := fun _ => ⟨c1, c2, .inr ⟨c4, c5⟩⟩, kids1 := fun h1 h2 => by rw [HKL.out]; omega, kids12 := fun h => by rw [HKL.out]; omega, kids0 := fun h => by rw [HKL.out]; omega }
    have HOK := Lib.hid hok
    clear hok
    go_wp2_with fail
    go_ret
    exact .yes HOK.out HB.out
  have n10 : ¬ t.op = 10 := hop
  clear hop
  by_cases hop : t.op = 11
  case pos =>
    have d1 : (t.op == 1) = false := by rw [hop]; rfl
    have d2 : (t.op == 2) = false := by rw [hop]; rfl
    have d3 : (t.op == 3) = false := by rw [hop]; rfl
    have d4 : (t.op == 4) = false := by rw [hop]; rfl
    have d5 : (t.op == 5) = false := by rw [hop]; rfl
    have d6 : (t.op == 6) = false := by rw [hop]; rfl
    have d7 : (t.op == 7) = false := by rw [hop]; rfl
    have d8 : (t.op == 8) = false := by rw [hop]; rfl
    have d9 : (t.op == 9) = false := by rw [hop]; rfl
    have d10 : (t.op == 10) = false := by rw [hop]; rfl
    have d11 : (t.op == 11) = true := by rw [hop]; rfl
    have d12 : (t.op == 12) = false := by rw [hop]; rfl
    have hok : OkP t := { op := by omega, rune := G0.out, set := fun h => by rw [HSL.out]; exact G1.out h, at_ := G2.out, cap := G3.out, name := G4.out, mn := G5.out, mx := G6.out, lzy := G7.out, rune3 := fun h => absurd h (by omega), set4 := fun h => absurd h (by omega), at5 := fun h => absurd h (by omega), name6 := fun h => absurd h (by omega), rep10 := fun h => absurd h (by omega), kids1 := fun h1 h2 => by rw [HKL.out]; omega, kids12 := fun h => by rw [HKL.out]; omega, kids0 := fun h => by rw [HKL.out]; omega }
    have HOK := Lib.hid hok
    clear hok
    go_wp2_with fail
    go_ret
    exact .yes HOK.out HB.out
  have n11 : ¬ t.op = 11 := hop
  clear hop
  by_cases hop : t.op = 12
  case pos =>
    have d1 : (t.op == 1) = false := by rw [hop]; rfl
    have d2 : (t.op == 2) = false := by rw [hop]; rfl
    have d3 : (t.op == 3) = false := by rw [hop]; rfl
    have d4 : (t.op == 4) = false := by rw [hop]; rfl
    have d5 : (t.op == 5) = false := by rw [hop]; rfl
    have d6 : (t.op == 6) = false := by rw [hop]; rfl
    have d7 : (t.op == 7) = false := by rw [hop]; rfl
    have d8 : (t.op == 8) = false := by rw [hop]; rfl
    have d9 : (t.op == 9) = false := by rw [hop]; rfl
    have d10 : (t.op == 10) = false := by rw [hop]; rfl
    have d11 : (t.op == 11) = false := by rw [hop]; rfl
    have d12 : (t.op == 12) = true := by rw [hop]; rfl
    by_cases c0 : 0 < kn
    case neg =>
      have ra : decide ((0 : Int) < (kn : Int)) = false := decide_eq_false (by omega)
      have rb : decide (0 < kn) = false := decide_eq_false (by omega)
      have hno : ¬ OkP t := fun h => by (have := h.kids12 hop; rw [HKL.out] at this; omega)
      have HNO := Lib.hid hno
      clear hno
      go_wp2_with fail
      go_ret
      exact .no HNO.out HB.out
    have ra : decide ((0 : Int) < (kn : Int)) = true := decide_eq_true (by omega)
    have rb : decide (0 < kn) = true := decide_eq_true (by omega)
    have hok : OkP t := { op := by omega, rune := G0.out, set := fun h => by rw [HSL.out]; exact G1.out h, at_ := G2.out, cap := G3.out, name := G4.out, mn := G5.out, mx := G6.out, lzy := G7.out, rune3 := fun h => absurd h (by omega), set4 := fun h => absurd h (by omega), at5 := fun h => absurd h (by omega), name6 := fun h => absurd h (by omega), rep10 := fun h => absurd h (by omega), kids1 := fun h1 h2 => by rw [HKL.out]; omega, kids12 := fun h => by rw [HKL.out]; omega, kids0 := fun h => by rw [HKL.out]; omega }
    have HOK := Lib.hid hok
    clear hok
    go_wp2_with fail
    go_ret
    exact .yes HOK.out HB.out
  have n12 : ¬ t.op = 12 := hop
  clear hop
  have d1 : (t.op == 1) = false := beq_eq_false_iff_ne.2 n1
  have d2 : (t.op == 2) = false := beq_eq_false_iff_ne.2 n2
  have d3 : (t.op == 3) = false := beq_eq_false_iff_ne.2 n3
  have d4 : (t.op == 4) = false := beq_eq_false_iff_ne.2 n4
  have d5 : (t.op == 5) = false := beq_eq_false_iff_ne.2 n5
  have d6 : (t.op == 6) = false := beq_eq_false_iff_ne.2 n6
  have d7 : (t.op == 7) = false := beq_eq_false_iff_ne.2 n7
  have d8 : (t.op == 8) = false := beq_eq_false_iff_ne.2 n8
  have d9 : (t.op == 9) = false := beq_eq_false_iff_ne.2 n9
  have d10 : (t.op == 10) = false := beq_eq_false_iff_ne.2 n10
  have d11 : (t.op == 11) = false := beq_eq_false_iff_ne.2 n11
  have d12 : (t.op == 12) = false := beq_eq_false_iff_ne.2 n12
  have hno : ¬ OkP t := fun h => by (have := h.op; omega)
  have HNO := Lib.hid hno
  clear hno
  go_wp2_with fail
  go_ret
  exact .no HNO.out HB.out
end Go.Proofs.Ytbhcgjahlfpjoaa
