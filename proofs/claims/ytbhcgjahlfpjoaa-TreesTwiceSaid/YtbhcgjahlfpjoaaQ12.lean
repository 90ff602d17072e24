/- May a part of a tree be: the reference's fields and kids: the walks. -/
import Derived.Test.YtbhcgjahlfpjoaaQ9
namespace Go.Proofs.Ytbhcgjahlfpjoaa
open Go.RowKit

/-- Has a part as many parts as it may? -/
def KidOK (t : Tr) : Prop := (6 ≤ t.op → t.op ≤ 10 → t.kids.length = 1) ∧ (t.op = 12 → 1 ≤ t.kids.length) ∧ (t.op < 6 ∨ 12 < t.op → t.kids.length = 0)
/-- Has a part the fields that its Op has? -/
structure FldOK (t : Tr) : Prop where
  op : 1 ≤ t.op ∧ t.op ≤ 12
  rune : t.op ≠ 3 → t.rune = 0
  set : t.op ≠ 4 → t.set.length = 0
  at_ : t.op ≠ 5 → t.at_ = 0
  cap : t.op ≠ 6 → t.cap = 0
  name : t.op ≠ 6 → t.name = ⟨#[]⟩
  mn : t.op ≠ 10 → t.mn = 0
  mx : t.op ≠ 10 → t.mx = 0
  lzy : ¬ (t.op = 7 ∨ t.op = 8 ∨ t.op = 9 ∨ t.op = 10) → t.lzy = false
  rune3 : t.op = 3 → 0 ≤ t.rune ∧ t.rune ≤ 1114111
  set4 : t.op = 4 → 0 < t.set.length ∧ Canon t.set
  at5 : t.op = 5 → t.at_ ∈ AtT
  name6 : t.op = 6 → t.name = ⟨#[]⟩ ∨ NameOk t.name
  rep10 : t.op = 10 → 0 ≤ t.mn ∧ t.mn ≤ 1000 ∧ (t.mx = -1 ∨ (t.mn ≤ t.mx ∧ t.mx ≤ 1000))
theorem okP_iff {t : Tr} : OkP t ↔ FldOK t ∧ KidOK t :=
  ⟨fun h => ⟨⟨h.op, h.rune, h.set, h.at_, h.cap, h.name, h.mn, h.mx, h.lzy, h.rune3, h.set4, h.at5, h.name6, h.rep10⟩, h.kids1, h.kids12, fun hh => h.kids0 (by have := h.op; omega)⟩,
   fun ⟨h, k1, k2, k3⟩ => ⟨h.op, h.rune, h.set, h.at_, h.cap, h.name, h.mn, h.mx, h.lzy, h.rune3, h.set4, h.at5, h.name6, h.rep10, k1, k2, fun hh => k3 (.inl hh)⟩⟩
theorem refRightY {w : World} {A : Option Addr} {n c : Nat} {l : List Rg} (hA : RgIn w A n c l) : Calls Try.prog 87 #[.slice A n c] w (YesB (Canon l) w) := by
  refine (refRight_any hA).mono ?_
  rintro e w' ⟨⟨b, he, hb1⟩, hb⟩
  exact ⟨b, he, hb1, hb⟩

set_option maxRecDepth 20000 in
set_option maxHeartbeats 4000000 in
theorem rkids_any {w : World} {t : Tr} {kA : Option Addr} {kn kc : Nat} {sA : Option Addr} {sn sc : Nat} (hT : TIn w t ⟨kA, kn, kc, sA, sn, sc⟩) : Calls Try.prog 62 #[.agg #[.int .i64 t.op, .slice kA kn kc, .int .i32 t.rune, .slice sA sn sc, .int .i64 t.at_, .int .i64 t.cap, .string t.name, .int .i64 t.mn, .int .i64 t.mx, .bool t.lzy]] w (YesB (KidOK t) w) := by
  have hb : Below w.heap.size w (w.alloc (.cells #[.int .i64 t.op, .slice kA kn kc, .int .i32 t.rune, .slice sA sn sc, .int .i64 t.at_, .int .i64 t.cap, .string t.name, .int .i64 t.mn, .int .i64 t.mx, .bool t.lzy] 27)) := (Below.refl _ _).alloc (Nat.le_refl _) _
  have hB := TBox.newV w t kA kn kc sA sn sc
  have HB := Lib.hid hb
  have hkl : t.kids.length = kn := by obtain ⟨ka, hK⟩ := hT.kidsV; exact hK.len
  have hsl : t.set.length = sn := hT.set.len
  have hkm : (kn : Int) ≤ 9223372036854775807 := by obtain ⟨ka, hK⟩ := hT.kidsV; have h1 := hK.max; have h2 := hK.le; unfold maxLen at h1; omega
  have hnm := hT.name
  have h10 := hB.ten
  have k0 := h10.c0
  have k1 := h10.c1
  have k2 := h10.c2
  have k3 := h10.c3
  have k4 := h10.c4
  have k5 := h10.c5
  have k6 := h10.c6
  have k7 := h10.c7
  have k8 := h10.c8
  have k9 := h10.c9
  dsimp only at k1 k3
  have HT := Lib.hid (hT.on hb)
  have HKL := Lib.hid hkl
  have HSL := Lib.hid hsl
  have HNM := Lib.hid hnm
  clear hb hB hT h10 hkl hsl hnm
  go_enter Try.func62, Try.ntmps62
  go_upto_region 1 with fail
  generalize w.alloc (.cells #[.int .i64 t.op, .slice kA kn kc, .int .i32 t.rune, .slice sA sn sc, .int .i64 t.at_, .int .i64 t.cap, .string t.name, .int .i64 t.mn, .int .i64 t.mx, .bool t.lzy] 27) = W at HB HT k0 k1 k2 k3 k4 k5 k6 k7 k8 k9 ⊢
  by_cases hop : t.op = 6
  case pos =>
    have d6 : (t.op == 6) = true := by rw [hop]; rfl
    have d7 : (t.op == 7) = false := by rw [hop]; rfl
    have d8 : (t.op == 8) = false := by rw [hop]; rfl
    have d9 : (t.op == 9) = false := by rw [hop]; rfl
    have d10 : (t.op == 10) = false := by rw [hop]; rfl
    have d11 : (t.op == 11) = false := by rw [hop]; rfl
    have d12 : (t.op == 12) = false := by rw [hop]; rfl
    by_cases c0 : kn = 1
    case neg =>
      have q1 : (kn == 1) = false := beq_eq_false_iff_ne.2 (by omega)
      have q1b : ((kn : Int) == 1) = false := beq_eq_false_iff_ne.2 (by omega)
      have q1c : decide (kn = 1) = false := decide_eq_false (by omega)
      have hno : ¬ KidOK t := fun h => by (have hkl := HKL.out; have := h.1 (by omega) (by omega); omega)
      have HNO := Lib.hid hno
      clear hno
      go_wp2_with fail
      go_ret
      exact .no HNO.out HB.out
    have q1 : (kn == 1) = true := beq_iff_eq.2 (by omega)
    have q1b : ((kn : Int) == 1) = true := beq_iff_eq.2 (by omega)
    have q1c : decide (kn = 1) = true := decide_eq_true (by omega)
    have hok : KidOK t := ⟨fun h1 h2 => by rw [HKL.out]; omega, fun h => by rw [HKL.out]; omega, fun h => by rw [HKL.out]; omega⟩
    have HOK := Lib.hid hok
    clear hok
    go_wp2_with fail
    go_ret
    exact .yes HOK.out HB.out
  have n6 : ¬ t.op = 6 := hop
  clear hop
  by_cases hop : t.op = 7
  case pos =>
    have d6 : (t.op == 6) = false := by rw [hop]; rfl
    have d7 : (t.op == 7) = true := by rw [hop]; rfl
    have d8 : (t.op == 8) = false := by rw [hop]; rfl
    have d9 : (t.op == 9) = false := by rw [hop]; rfl
    have d10 : (t.op == 10) = false := by rw [hop]; rfl
    have d11 : (t.op == 11) = false := by rw [hop]; rfl
    have d12 : (t.op == 12) = false := by rw [hop]; rfl
    by_cases c0 : kn = 1
    case neg =>
      have q1 : (kn == 1) = false := beq_eq_false_iff_ne.2 (by omega)
      have q1b : ((kn : Int) == 1) = false := beq_eq_false_iff_ne.2 (by omega)
      have q1c : decide (kn = 1) = false := decide_eq_false (by omega)
      have hno : ¬ KidOK t := fun h => by (have hkl := HKL.out; have := h.1 (by omega) (by omega); omega)
      have HNO := Lib.hid hno
      clear hno
      go_wp2_with fail
      go_ret
      exact .no HNO.out HB.out
    have q1 : (kn == 1) = true := beq_iff_eq.2 (by omega)
    have q1b : ((kn : Int) == 1) = true := beq_iff_eq.2 (by omega)
    have q1c : decide (kn = 1) = true := decide_eq_true (by omega)
    have hok : KidOK t := ⟨fun h1 h2 => by rw [HKL.out]; omega, fun h => by rw [HKL.out]; omega, fun h => by rw [HKL.out]; omega⟩
    have HOK := Lib.hid hok
    clear hok
    go_wp2_with fail
    go_ret
    exact .yes HOK.out HB.out
  have n7 : ¬ t.op = 7 := hop
  clear hop
  by_cases hop : t.op = 8
  case pos =>
    have d6 : (t.op == 6) = false := by rw [hop]; rfl
    have d7 : (t.op == 7) = false := by rw [hop]; rfl
    have d8 : (t.op == 8) = true := by rw [hop]; rfl
    have d9 : (t.op == 9) = false := by rw [hop]; rfl
    have d10 : (t.op == 10) = false := by rw [hop]; rfl
    have d11 : (t.op == 11) = false := by rw [hop]; rfl
    have d12 : (t.op == 12) = false := by rw [hop]; rfl
    by_cases c0 : kn = 1
    case neg =>
      have q1 : (kn == 1) = false := beq_eq_false_iff_ne.2 (by omega)
      have q1b : ((kn : Int) == 1) = false := beq_eq_false_iff_ne.2 (by omega)
      have q1c : decide (kn = 1) = false := decide_eq_false (by omega)
      have hno : ¬ KidOK t := fun h => by (have hkl := HKL.out; have := h.1 (by omega) (by omega); omega)
      have HNO := Lib.hid hno
      clear hno
      go_wp2_with fail
      go_ret
      exact .no HNO.out HB.out
    have q1 : (kn == 1) = true := beq_iff_eq.2 (by omega)
    have q1b : ((kn : Int) == 1) = true := beq_iff_eq.2 (by omega)
    have q1c : decide (kn = 1) = true := decide_eq_true (by omega)
    have hok : KidOK t := ⟨fun h1 h2 => by rw [HKL.out]; omega, fun h => by rw [HKL.out]; omega, fun h => by rw [HKL.out]; omega⟩
    have HOK := Lib.hid hok
    clear hok
    go_wp2_with fail
    go_ret
    exact .yes HOK.out HB.out
  have n8 : ¬ t.op = 8 := hop
  clear hop
  by_cases hop : t.op = 9
  case pos =>
    have d6 : (t.op == 6) = false := by rw [hop]; rfl
    have d7 : (t.op == 7) = false := by rw [hop]; rfl
    have d8 : (t.op == 8) = false := by rw [hop]; rfl
    have d9 : (t.op == 9) = true := by rw [hop]; rfl
    have d10 : (t.op == 10) = false := by rw [hop]; rfl
    have d11 : (t.op == 11) = false := by rw [hop]; rfl
    have d12 : (t.op == 12) = false := by rw [hop]; rfl
    by_cases c0 : kn = 1
    case neg =>
      have q1 : (kn == 1) = false := beq_eq_false_iff_ne.2 (by omega)
      have q1b : ((kn : Int) == 1) = false := beq_eq_false_iff_ne.2 (by omega)
      have q1c : decide (kn = 1) = false := decide_eq_false (by omega)
      have hno : ¬ KidOK t := fun h => by (have hkl := HKL.out; have := h.1 (by omega) (by omega); omega)
      have HNO := Lib.hid hno
      clear hno
      go_wp2_with fail
      go_ret
      exact .no HNO.out HB.out
    have q1 : (kn == 1) = true := beq_iff_eq.2 (by omega)
    have q1b : ((kn : Int) == 1) = true := beq_iff_eq.2 (by omega)
    have q1c : decide (kn = 1) = true := decide_eq_true (by omega)
    have hok : KidOK t := ⟨fun h1 h2 => by rw [HKL.out]; omega, fun h => by rw [HKL.out]; omega, fun h => by rw [HKL.out]; omega⟩
    have HOK := Lib.hid hok
    clear hok
    go_wp2_with fail
    go_ret
    exact .yes HOK.out HB.out
  have n9 : ¬ t.op = 9 := hop
  clear hop
  by_cases hop : t.op = 10
  case pos =>
    have d6 : (t.op == 6) = false := by rw [hop]; rfl
    have d7 : (t.op == 7) = false := by rw [hop]; rfl
    have d8 : (t.op == 8) = false := by rw [hop]; rfl
    have d9 : (t.op == 9) = false := by rw [hop]; rfl
    have d10 : (t.op == 10) = true := by rw [hop]; rfl
    have d11 : (t.op == 11) = false := by rw [hop]; rfl
    have d12 : (t.op == 12) = false := by rw [hop]; rfl
    by_cases c0 : kn = 1
    case neg =>
      have q1 : (kn == 1) = false := beq_eq_false_iff_ne.2 (by omega)
      have q1b : ((kn : Int) == 1) = false := beq_eq_false_iff_ne.2 (by omega)
      have q1c : decide (kn = 1) = false := decide_eq_false (by omega)
      have hno : ¬ KidOK t := fun h => by (have hkl := HKL.out; have := h.1 (by omega) (by omega); omega)
      have HNO := Lib.hid hno
      clear hno
      go_wp2_with fail
      go_ret
      exact .no HNO.out HB.out
    have q1 : (kn == 1) = true := beq_iff_eq.2 (by omega)
    have q1b : ((kn : Int) == 1) = true := beq_iff_eq.2 (by omega)
    have q1c : decide (kn = 1) = true := decide_eq_true (by omega)
    have hok : KidOK t := ⟨fun h1 h2 => by rw [HKL.out]; omega, fun h => by rw [HKL.out]; omega, fun h => by rw [HKL.out]; omega⟩
    have HOK := Lib.hid hok
    clear hok
    go_wp2_with fail
    go_ret
    exact .yes HOK.out HB.out
  have n10 : ¬ t.op = 10 := hop
  clear hop
  by_cases hop : t.op = 11
  case pos =>
    have d6 : (t.op == 6) = false := by rw [hop]; rfl
    have d7 : (t.op == 7) = false := by rw [hop]; rfl
    have d8 : (t.op == 8) = false := by rw [hop]; rfl
    have d9 : (t.op == 9) = false := by rw [hop]; rfl
    have d10 : (t.op == 10) = false := by rw [hop]; rfl
    have d11 : (t.op == 11) = true := by rw [hop]; rfl
    have d12 : (t.op == 12) = false := by rw [hop]; rfl
    have hok : KidOK t := ⟨fun h1 h2 => by rw [HKL.out]; omega, fun h => by rw [HKL.out]; omega, fun h => by rw [HKL.out]; omega⟩
    have HOK := Lib.hid hok
    clear hok
    go_wp2_with fail
    go_ret
    exact .yes HOK.out HB.out
  have n11 : ¬ t.op = 11 := hop
  clear hop
  by_cases hop : t.op = 12
  case pos =>
    have d6 : (t.op == 6) = false := by rw [hop]; rfl
    have d7 : (t.op == 7) = false := by rw [hop]; rfl
    have d8 : (t.op == 8) = false := by rw [hop]; rfl
    have d9 : (t.op == 9) = false := by rw [hop]; rfl
    have d10 : (t.op == 10) = false := by rw [hop]; rfl
    have d11 : (t.op == 11) = false := by rw [hop]; rfl
    have d12 : (t.op == 12) = true := by rw [hop]; rfl
    by_cases c0 : 1 ≤ kn
    case neg =>
      have ra : decide (1 ≤ kn) = false := decide_eq_false (by omega)
      have rb : decide ((1 : Int) ≤ (kn : Int)) = false := decide_eq_false (by omega)
      have rc : decide (0 < kn) = false := decide_eq_false (by omega)
      have rd : decide ((0 : Int) < (kn : Int)) = false := decide_eq_false (by omega)
      have hno : ¬ KidOK t := fun h => by (have hkl := HKL.out; have := h.2.1 hop; omega)
      have HNO := Lib.hid hno
      clear hno
      go_wp2_with fail
      go_ret
      exact .no HNO.out HB.out
    have ra : decide (1 ≤ kn) = true := decide_eq_true (by omega)
    have rb : decide ((1 : Int) ≤ (kn : Int)) = true := decide_eq_true (by omega)
    have rc : decide (0 < kn) = true := decide_eq_true (by omega)
    have rd : decide ((0 : Int) < (kn : Int)) = true := decide_eq_true (by omega)
    have hok : KidOK t := ⟨fun h1 h2 => by rw [HKL.out]; omega, fun h => by rw [HKL.out]; omega, fun h => by rw [HKL.out]; omega⟩
    have HOK := Lib.hid hok
    clear hok
    go_wp2_with fail
    go_ret
    exact .yes HOK.out HB.out
  have n12 : ¬ t.op = 12 := hop
  clear hop
  have d6 : (t.op == 6) = false := beq_eq_false_iff_ne.2 n6
  have d7 : (t.op == 7) = false := beq_eq_false_iff_ne.2 n7
  have d8 : (t.op == 8) = false := beq_eq_false_iff_ne.2 n8
  have d9 : (t.op == 9) = false := beq_eq_false_iff_ne.2 n9
  have d10 : (t.op == 10) = false := beq_eq_false_iff_ne.2 n10
  have d11 : (t.op == 11) = false := beq_eq_false_iff_ne.2 n11
  have d12 : (t.op == 12) = false := beq_eq_false_iff_ne.2 n12
  by_cases c0 : kn = 0
  case neg =>
    have q0 : (kn == 0) = false := beq_eq_false_iff_ne.2 (by omega)
    have q0b : ((kn : Int) == 0) = false := beq_eq_false_iff_ne.2 (by omega)
    have q0c : decide (kn = 0) = false := decide_eq_false (by omega)
    have hno : ¬ KidOK t := fun h => by (have hkl := HKL.out; have := h.2.2 (by omega); omega)
    have HNO := Lib.hid hno
    clear hno
    go_wp2_with fail
    go_ret
    exact .no HNO.out HB.out
  have q0 : (kn == 0) = true := beq_iff_eq.2 (by omega)
  have q0b : ((kn : Int) == 0) = true := beq_iff_eq.2 (by omega)
  have q0c : decide (kn = 0) = true := decide_eq_true (by omega)
  have hok : KidOK t := ⟨fun h1 h2 => by rw [HKL.out]; omega, fun h => by rw [HKL.out]; omega, fun h => by rw [HKL.out]; omega⟩
  have HOK := Lib.hid hok
  clear hok
  go_wp2_with fail
  go_ret
  exact .yes HOK.out HB.out
set_option maxRecDepth 100000 in
set_option maxHeartbeats 16000000 in
theorem rfields_any {w : World} {t : Tr} {kA : Option Addr} {kn kc : Nat} {sA : Option Addr} {sn sc : Nat} (hT : TIn w t ⟨kA, kn, kc, sA, sn, sc⟩) : Calls Try.prog 61 #[.agg #[.int .i64 t.op, .slice kA kn kc, .int .i32 t.rune, .slice sA sn sc, .int .i64 t.at_, .int .i64 t.cap, .string t.name, .int .i64 t.mn, .int .i64 t.mx, .bool t.lzy]] w (YesB (FldOK t) w) := by
  have hb : Below w.heap.size w (w.alloc (.cells #[.int .i64 t.op, .slice kA kn kc, .int .i32 t.rune, .slice sA sn sc, .int .i64 t.at_, .int .i64 t.cap, .string t.name, .int .i64 t.mn, .int .i64 t.mx, .bool t.lzy] 27)) := (Below.refl _ _).alloc (Nat.le_refl _) _
  have hB := TBox.newV w t kA kn kc sA sn sc
  have HB := Lib.hid hb
  have HBX := Lib.hid hB
  have hkl : t.kids.length = kn := by obtain ⟨ka, hK⟩ := hT.kidsV; exact hK.len
  have hsl : t.set.length = sn := hT.set.len
  have hkm : (kn : Int) ≤ 9223372036854775807 := by obtain ⟨ka, hK⟩ := hT.kidsV; have h1 := hK.max; have h2 := hK.le; unfold maxLen at h1; omega
  have hnm := hT.name
  have h10 := hB.ten
  have k0 := h10.c0
  have k1 := h10.c1
  have k2 := h10.c2
  have k3 := h10.c3
  have k4 := h10.c4
  have k5 := h10.c5
  have k6 := h10.c6
  have k7 := h10.c7
  have k8 := h10.c8
  have k9 := h10.c9
  dsimp only at k1 k3
  have HT := Lib.hid (hT.on hb)
  have HKL := Lib.hid hkl
  have HSL := Lib.hid hsl
  have HNM := Lib.hid hnm
  clear hb hB hT h10 hkl hsl hnm
  go_enter Try.func61, Try.ntmps61
  go_upto_region 1 with fail
  generalize w.alloc (.cells #[.int .i64 t.op, .slice kA kn kc, .int .i32 t.rune, .slice sA sn sc, .int .i64 t.at_, .int .i64 t.cap, .string t.name, .int .i64 t.mn, .int .i64 t.mx, .bool t.lzy] 27) = W at HB HBX HT k0 k1 k2 k3 k4 k5 k6 k7 k8 k9 ⊢
  by_cases hr : t.op < 1
  · have l1 : decide (t.op < 1) = true := decide_eq_true hr
    have HOP := Lib.hid hr
    clear hr
    have hno : ¬ FldOK t := fun h => by (have hop := HOP.out; have := h.op; omega)
    have HNO := Lib.hid hno
    clear hno
    go_wp2_with fail
    go_ret
    exact .no HNO.out HB.out
  by_cases hr12 : 12 < t.op
  · have l1 : decide (t.op < 1) = false := decide_eq_false hr
    have l12 : decide (12 < t.op) = true := decide_eq_true hr12
    have HOP := Lib.hid hr12
    clear hr hr12
    have hno : ¬ FldOK t := fun h => by (have hop := HOP.out; have := h.op; omega)
    have HNO := Lib.hid hno
    clear hno
    go_wp2_with fail
    go_ret
    exact .no HNO.out HB.out
  by_cases hop : t.op = 3
  case pos =>
    have d3 : (t.op == 3) = true := beq_iff_eq.2 (by omega)
    have b3 : (t.op != 3) = false := bne_eq_false_iff_eq.2 (by omega)
    have d4 : (t.op == 4) = false := beq_eq_false_iff_ne.2 (by omega)
    have b4 : (t.op != 4) = true := bne_iff_ne.2 (by omega)
    have d5 : (t.op == 5) = false := beq_eq_false_iff_ne.2 (by omega)
    have b5 : (t.op != 5) = true := bne_iff_ne.2 (by omega)
    have d6 : (t.op == 6) = false := beq_eq_false_iff_ne.2 (by omega)
    have b6 : (t.op != 6) = true := bne_iff_ne.2 (by omega)
    have d10 : (t.op == 10) = false := beq_eq_false_iff_ne.2 (by omega)
    have b10 : (t.op != 10) = true := bne_iff_ne.2 (by omega)
    have l1 : decide (t.op < 1) = false := decide_eq_false (by omega)
    have l12 : decide (12 < t.op) = false := decide_eq_false (by omega)
    have l7 : decide (t.op < 7) = true := decide_eq_true (by omega)
    have HOP := Lib.hid hop
    clear hop hr hr12
    by_cases cc : sn = 0
    case neg =>
      have u1a : decide (0 < sn) = true := decide_eq_true (by omega)
      have u1b : decide ((0 : Int) < (sn : Int)) = true := decide_eq_true (by omega)
      have C1 := Lib.hid cc
      clear cc
      have hno : ¬ FldOK t := fun h => by (have hop := HOP.out; exact C1.out (HSL.out.symm.trans (h.set (by omega))))
      have HNO := Lib.hid hno
      clear hno
      go_wp2_with fail
      go_ret
      exact .no HNO.out HB.out
    have u1a : decide (0 < sn) = false := decide_eq_false (by omega)
    have u1b : decide ((0 : Int) < (sn : Int)) = false := decide_eq_false (by omega)
    have C1 := Lib.hid cc
    clear cc
    by_cases cc : t.at_ = 0
    case neg =>
      have u2 : (t.at_ != 0) = true := bne_iff_ne.2 cc
      have C2 := Lib.hid cc
      clear cc
      have hno : ¬ FldOK t := fun h => by (have hop := HOP.out; exact C2.out (h.at_ (by omega)))
      have HNO := Lib.hid hno
      clear hno
      go_wp2_with fail
      go_ret
      exact .no HNO.out HB.out
    have u2 : (t.at_ != 0) = false := by rw [cc]; rfl
    have C2 := Lib.hid cc
    clear cc
    go_upto_region 5 with fail
    by_cases cc : t.cap = 0
    case neg =>
      have u3 : (t.cap != 0) = true := bne_iff_ne.2 cc
      have C3 := Lib.hid cc
      clear cc
      have hno : ¬ FldOK t := fun h => by (have hop := HOP.out; exact C3.out (h.cap (by omega)))
      have HNO := Lib.hid hno
      clear hno
      go_wp2_with fail
      go_ret
      exact .no HNO.out HB.out
    have u3 : (t.cap != 0) = false := by rw [cc]; rfl
    have C3 := Lib.hid cc
    clear cc
    by_cases cc : t.name = ⟨#[]⟩
    case neg =>
      have u4 : t.name.toList.isEmpty = false := by cases hh : t.name.toList.isEmpty with | false => rfl | true => exact absurd (empty_name.1 hh) cc
      have C4 := Lib.hid cc
      clear cc
      have hno : ¬ FldOK t := fun h => by (have hop := HOP.out; exact C4.out (h.name (by omega)))
      have HNO := Lib.hid hno
      clear hno
      go_wp2_with fail
      go_ret
      exact .no HNO.out HB.out
    have u4 : t.name.toList.isEmpty = true := empty_name.2 cc
    have C4 := Lib.hid cc
    clear cc
    by_cases cc : t.mn = 0
    case neg =>
      have u5 : (t.mn != 0) = true := bne_iff_ne.2 cc
      have C5 := Lib.hid cc
      clear cc
      have hno : ¬ FldOK t := fun h => by (have hop := HOP.out; exact C5.out (h.mn (by omega)))
      have HNO := Lib.hid hno
      clear hno
      go_wp2_with fail
      go_ret
      exact .no HNO.out HB.out
    have u5 : (t.mn != 0) = false := by rw [cc]; rfl
    have C5 := Lib.hid cc
    clear cc
    by_cases cc : t.mx = 0
    case neg =>
      have u6 : (t.mx != 0) = true := bne_iff_ne.2 cc
      have C6 := Lib.hid cc
      clear cc
      have hno : ¬ FldOK t := fun h => by (have hop := HOP.out; exact C6.out (h.mx (by omega)))
      have HNO := Lib.hid hno
      clear hno
      go_wp2_with fail
      go_ret
      exact .no HNO.out HB.out
    have u6 : (t.mx != 0) = false := by rw [cc]; rfl
    have C6 := Lib.hid cc
    clear cc
    go_upto_region 7 with fail
    by_cases cc : t.lzy = false
    case neg =>
      have u7 : t.lzy = true := by revert cc; cases t.lzy <;> simp
      have C7 := Lib.hid cc
      clear cc
      have hno : ¬ FldOK t := fun h => by (have hop := HOP.out; exact C7.out (h.lzy (by omega)))
      have HNO := Lib.hid hno
      clear hno
      go_wp2_with fail
      go_ret
      exact .no HNO.out HB.out
    have C7 := Lib.hid cc
    go_upto_region 9 with fail
    clear cc
    by_cases c1 : 0 ≤ t.rune
    case neg =>
      have ra : decide (0 ≤ t.rune) = false := decide_eq_false (by omega)
      have c1 := Lib.hid c1
      have hno : ¬ FldOK t := fun h => by (have hop := HOP.out; exact c1.out (h.rune3 hop).1)
      have HNO := Lib.hid hno
      clear hno
      go_wp2_with fail
      go_ret
      exact .no HNO.out HB.out
    have ra : decide (0 ≤ t.rune) = true := decide_eq_true (by omega)
    have c1 := Lib.hid c1
    by_cases c2 : t.rune ≤ 1114111
    case neg =>
      have sa : decide (t.rune ≤ 1114111) = false := decide_eq_false (by omega)
      have c2 := Lib.hid c2
      have hno : ¬ FldOK t := fun h => by (have hop := HOP.out; exact c2.out (h.rune3 hop).2)
      have HNO := Lib.hid hno
      clear hno
      go_wp2_with fail
      go_ret
      exact .no HNO.out HB.out
    have sa : decide (t.rune ≤ 1114111) = true := decide_eq_true (by omega)
    have c2 := Lib.hid c2
    have hok : FldOK t := { op := by have := HOP.out; omega, rune3 := fun _ => ⟨c1.out, c2.out⟩, set4 := fun h => absurd h (by have := HOP.out; omega), at5 := fun h => absurd h (by have := HOP.out; omega), name6 := fun h => absurd h (by have := HOP.out; omega), rep10 := fun h => absurd h (by have := HOP.out; omega), rune := fun h => absurd HOP.out h, set := fun _ => by rw [HSL.out]; exact C1.out, at_ := fun _ => C2.out, cap := fun _ => C3.out, name := fun _ => C4.out, mn := fun _ => C5.out, mx := fun _ => C6.out, lzy := fun _ => C7.out }
    have HOK := Lib.hid hok
    clear hok
    go_wp2_with fail
    go_ret
    exact .yes HOK.out HB.out
  have n3 : ¬ t.op = 3 := hop
  clear hop
  by_cases hop : t.op = 4
  case pos =>
    have d3 : (t.op == 3) = false := beq_eq_false_iff_ne.2 (by omega)
    have b3 : (t.op != 3) = true := bne_iff_ne.2 (by omega)
    have d4 : (t.op == 4) = true := beq_iff_eq.2 (by omega)
    have b4 : (t.op != 4) = false := bne_eq_false_iff_eq.2 (by omega)
    have d5 : (t.op == 5) = false := beq_eq_false_iff_ne.2 (by omega)
    have b5 : (t.op != 5) = true := bne_iff_ne.2 (by omega)
    have d6 : (t.op == 6) = false := beq_eq_false_iff_ne.2 (by omega)
    have b6 : (t.op != 6) = true := bne_iff_ne.2 (by omega)
    have d10 : (t.op == 10) = false := beq_eq_false_iff_ne.2 (by omega)
    have b10 : (t.op != 10) = true := bne_iff_ne.2 (by omega)
    have l1 : decide (t.op < 1) = false := decide_eq_false (by omega)
    have l12 : decide (12 < t.op) = false := decide_eq_false (by omega)
    have l7 : decide (t.op < 7) = true := decide_eq_true (by omega)
    have HOP := Lib.hid hop
    clear hop hr hr12
    by_cases cc : t.rune = 0
    case neg =>
      have u0 : (t.rune != 0) = true := bne_iff_ne.2 cc
      have C0 := Lib.hid cc
      clear cc
      have hno : ¬ FldOK t := fun h => by (have hop := HOP.out; exact C0.out (h.rune (by omega)))
      have HNO := Lib.hid hno
      clear hno
      go_wp2_with fail
      go_ret
      exact .no HNO.out HB.out
    have u0 : (t.rune != 0) = false := by rw [cc]; rfl
    have C0 := Lib.hid cc
    clear cc
    by_cases cc : t.at_ = 0
    case neg =>
      have u2 : (t.at_ != 0) = true := bne_iff_ne.2 cc
      have C2 := Lib.hid cc
      clear cc
      have hno : ¬ FldOK t := fun h => by (have hop := HOP.out; exact C2.out (h.at_ (by omega)))
      have HNO := Lib.hid hno
      clear hno
      go_wp2_with fail
      go_ret
      exact .no HNO.out HB.out
    have u2 : (t.at_ != 0) = false := by rw [cc]; rfl
    have C2 := Lib.hid cc
    clear cc
    go_upto_region 5 with fail
    by_cases cc : t.cap = 0
    case neg =>
      have u3 : (t.cap != 0) = true := bne_iff_ne.2 cc
      have C3 := Lib.hid cc
      clear cc
      have hno : ¬ FldOK t := fun h => by (have hop := HOP.out; exact C3.out (h.cap (by omega)))
      have HNO := Lib.hid hno
      clear hno
      go_wp2_with fail
      go_ret
      exact .no HNO.out HB.out
    have u3 : (t.cap != 0) = false := by rw [cc]; rfl
    have C3 := Lib.hid cc
    clear cc
    by_cases cc : t.name = ⟨#[]⟩
    case neg =>
      have u4 : t.name.toList.isEmpty = false := by cases hh : t.name.toList.isEmpty with | false => rfl | true => exact absurd (empty_name.1 hh) cc
      have C4 := Lib.hid cc
      clear cc
      have hno : ¬ FldOK t := fun h => by (have hop := HOP.out; exact C4.out (h.name (by omega)))
      have HNO := Lib.hid hno
      clear hno
      go_wp2_with fail
      go_ret
      exact .no HNO.out HB.out
    have u4 : t.name.toList.isEmpty = true := empty_name.2 cc
    have C4 := Lib.hid cc
    clear cc
    by_cases cc : t.mn = 0
    case neg =>
      have u5 : (t.mn != 0) = true := bne_iff_ne.2 cc
      have C5 := Lib.hid cc
      clear cc
      have hno : ¬ FldOK t := fun h => by (have hop := HOP.out; exact C5.out (h.mn (by omega)))
      have HNO := Lib.hid hno
      clear hno
      go_wp2_with fail
      go_ret
      exact .no HNO.out HB.out
    have u5 : (t.mn != 0) = false := by rw [cc]; rfl
    have C5 := Lib.hid cc
    clear cc
    by_cases cc : t.mx = 0
    case neg =>
      have u6 : (t.mx != 0) = true := bne_iff_ne.2 cc
      have C6 := Lib.hid cc
      clear cc
      have hno : ¬ FldOK t := fun h => by (have hop := HOP.out; exact C6.out (h.mx (by omega)))
      have HNO := Lib.hid hno
      clear hno
      go_wp2_with fail
      go_ret
      exact .no HNO.out HB.out
    have u6 : (t.mx != 0) = false := by rw [cc]; rfl
    have C6 := Lib.hid cc
    clear cc
    go_upto_region 7 with fail
    by_cases cc : t.lzy = false
    case neg =>
      have u7 : t.lzy = true := by revert cc; cases t.lzy <;> simp
      have C7 := Lib.hid cc
      clear cc
      have hno : ¬ FldOK t := fun h => by (have hop := HOP.out; exact C7.out (h.lzy (by omega)))
      have HNO := Lib.hid hno
      clear hno
      go_wp2_with fail
      go_ret
      exact .no HNO.out HB.out
    have C7 := Lib.hid cc
    go_upto_region 9 with fail
    clear cc
    by_cases c2 : Canon t.set
    case neg =>
      have c2 := Lib.hid c2
      have hno : ¬ FldOK t := fun h => by (have hop := HOP.out; exact c2.out (h.set4 hop).2)
      have HNO := Lib.hid hno
      clear hno
      go_wp2_with fail
      refine (refRightY HT.out.set).mono ?_
      rintro e V ⟨v, rfl, hv, hbv⟩
      obtain rfl : v = false := by cases v with | false => rfl | true => exact absurd (hv.1 rfl) c2.out
      have HV := Lib.hid (HB.out.trans (hbv.mono HB.out.size))
      have k3b := (HBX.out.below hbv).ten.c3
      dsimp only at k3b
      clear hv hbv
      go_wp2_with fail
      go_ret
      exact .no HNO.out HV.out
    have c2 := Lib.hid c2
    by_cases c1 : 0 < sn
    case neg =>
      have sa : decide (0 < sn) = false := decide_eq_false (by omega)
      have sb : decide ((0 : Int) < (sn : Int)) = false := decide_eq_false (by omega)
      have c1 := Lib.hid c1
      have hno : ¬ FldOK t := fun h => by (have hop := HOP.out; have := (h.set4 hop).1; rw [HSL.out] at this; exact c1.out this)
      have HNO := Lib.hid hno
      clear hno
      go_wp2_with fail
      refine (refRightY HT.out.set).mono ?_
      rintro e V ⟨v, rfl, hv, hbv⟩
      obtain rfl : v = true := hv.2 c2.out
      have HV := Lib.hid (HB.out.trans (hbv.mono HB.out.size))
      have k3b := (HBX.out.below hbv).ten.c3
      dsimp only at k3b
      clear hv hbv
      go_wp2_with fail
      go_ret
      exact .no HNO.out HV.out
    have sa : decide (0 < sn) = true := decide_eq_true (by omega)
    have sb : decide ((0 : Int) < (sn : Int)) = true := decide_eq_true (by omega)
    have c1 := Lib.hid c1
    have hok : FldOK t := { op := by have := HOP.out; omega, rune3 := fun h => absurd h (by have := HOP.out; omega), set4 := fun _ => ⟨by rw [HSL.out]; exact c1.out, c2.out⟩, at5 := fun h => absurd h (by have := HOP.out; omega), name6 := fun h => absurd h (by have := HOP.out; omega), rep10 := fun h => absurd h (by have := HOP.out; omega), rune := fun _ => C0.out, set := fun h => absurd HOP.out h, at_ := fun _ => C2.out, cap := fun _ => C3.out, name := fun _ => C4.out, mn := fun _ => C5.out, mx := fun _ => C6.out, lzy := fun _ => C7.out }
    have HOK := Lib.hid hok
    clear hok
    go_wp2_with fail
    refine (refRightY HT.out.set).mono ?_
    rintro e V ⟨v, rfl, hv, hbv⟩
    obtain rfl : v = true := hv.2 c2.out
    have HV := Lib.hid (HB.out.trans (hbv.mono HB.out.size))
    have k3b := (HBX.out.below hbv).ten.c3
    dsimp only at k3b
    clear hv hbv
    go_wp2_with fail
    go_ret
    exact .yes HOK.out HV.out
  have n4 : ¬ t.op = 4 := hop
  clear hop
  by_cases hop : t.op = 5
  case pos =>
    have d3 : (t.op == 3) = false := beq_eq_false_iff_ne.2 (by omega)
    have b3 : (t.op != 3) = true := bne_iff_ne.2 (by omega)
    have d4 : (t.op == 4) = false := beq_eq_false_iff_ne.2 (by omega)
    have b4 : (t.op != 4) = true := bne_iff_ne.2 (by omega)
    have d5 : (t.op == 5) = true := beq_iff_eq.2 (by omega)
    have b5 : (t.op != 5) = false := bne_eq_false_iff_eq.2 (by omega)
    have d6 : (t.op == 6) = false := beq_eq_false_iff_ne.2 (by omega)
    have b6 : (t.op != 6) = true := bne_iff_ne.2 (by omega)
    have d10 : (t.op == 10) = false := beq_eq_false_iff_ne.2 (by omega)
    have b10 : (t.op != 10) = true := bne_iff_ne.2 (by omega)
    have l1 : decide (t.op < 1) = false := decide_eq_false (by omega)
    have l12 : decide (12 < t.op) = false := decide_eq_false (by omega)
    have l7 : decide (t.op < 7) = true := decide_eq_true (by omega)
    have HOP := Lib.hid hop
    clear hop hr hr12
    by_cases cc : t.rune = 0
    case neg =>
      have u0 : (t.rune != 0) = true := bne_iff_ne.2 cc
      have C0 := Lib.hid cc
      clear cc
      have hno : ¬ FldOK t := fun h => by (have hop := HOP.out; exact C0.out (h.rune (by omega)))
      have HNO := Lib.hid hno
      clear hno
      go_wp2_with fail
      go_ret
      exact .no HNO.out HB.out
    have u0 : (t.rune != 0) = false := by rw [cc]; rfl
    have C0 := Lib.hid cc
    clear cc
    by_cases cc : sn = 0
    case neg =>
      have u1a : decide (0 < sn) = true := decide_eq_true (by omega)
      have u1b : decide ((0 : Int) < (sn : Int)) = true := decide_eq_true (by omega)
      have C1 := Lib.hid cc
      clear cc
      have hno : ¬ FldOK t := fun h => by (have hop := HOP.out; exact C1.out (HSL.out.symm.trans (h.set (by omega))))
      have HNO := Lib.hid hno
      clear hno
      go_wp2_with fail
      go_ret
      exact .no HNO.out HB.out
    have u1a : decide (0 < sn) = false := decide_eq_false (by omega)
    have u1b : decide ((0 : Int) < (sn : Int)) = false := decide_eq_false (by omega)
    have C1 := Lib.hid cc
    clear cc
    go_upto_region 5 with fail
    by_cases cc : t.cap = 0
    case neg =>
      have u3 : (t.cap != 0) = true := bne_iff_ne.2 cc
      have C3 := Lib.hid cc
      clear cc
      have hno : ¬ FldOK t := fun h => by (have hop := HOP.out; exact C3.out (h.cap (by omega)))
      have HNO := Lib.hid hno
      clear hno
      go_wp2_with fail
      go_ret
      exact .no HNO.out HB.out
    have u3 : (t.cap != 0) = false := by rw [cc]; rfl
    have C3 := Lib.hid cc
    clear cc
    by_cases cc : t.name = ⟨#[]⟩
    case neg =>
      have u4 : t.name.toList.isEmpty = false := by cases hh : t.name.toList.isEmpty with | false => rfl | true => exact absurd (empty_name.1 hh) cc
      have C4 := Lib.hid cc
      clear cc
      have hno : ¬ FldOK t := fun h => by (have hop := HOP.out; exact C4.out (h.name (by omega)))
      have HNO := Lib.hid hno
      clear hno
      go_wp2_with fail
      go_ret
      exact .no HNO.out HB.out
    have u4 : t.name.toList.isEmpty = true := empty_name.2 cc
    have C4 := Lib.hid cc
    clear cc
    by_cases cc : t.mn = 0
    case neg =>
      have u5 : (t.mn != 0) = true := bne_iff_ne.2 cc
      have C5 := Lib.hid cc
      clear cc
      have hno : ¬ FldOK t := fun h => by (have hop := HOP.out; exact C5.out (h.mn (by omega)))
      have HNO := Lib.hid hno
      clear hno
      go_wp2_with fail
      go_ret
      exact .no HNO.out HB.out
    have u5 : (t.mn != 0) = false := by rw [cc]; rfl
    have C5 := Lib.hid cc
    clear cc
    by_cases cc : t.mx = 0
    case neg =>
      have u6 : (t.mx != 0) = true := bne_iff_ne.2 cc
      have C6 := Lib.hid cc
      clear cc
      have hno : ¬ FldOK t := fun h => by (have hop := HOP.out; exact C6.out (h.mx (by omega)))
      have HNO := Lib.hid hno
      clear hno
      go_wp2_with fail
      go_ret
      exact .no HNO.out HB.out
    have u6 : (t.mx != 0) = false := by rw [cc]; rfl
    have C6 := Lib.hid cc
    clear cc
    go_upto_region 7 with fail
    by_cases cc : t.lzy = false
    case neg =>
      have u7 : t.lzy = true := by revert cc; cases t.lzy <;> simp
      have C7 := Lib.hid cc
      clear cc
      have hno : ¬ FldOK t := fun h => by (have hop := HOP.out; exact C7.out (h.lzy (by omega)))
      have HNO := Lib.hid hno
      clear hno
      go_wp2_with fail
      go_ret
      exact .no HNO.out HB.out
    have C7 := Lib.hid cc
    go_upto_region 9 with fail
    clear cc
    by_cases c1 : t.at_ = 1
    case pos =>
      have a1 : (t.at_ == 1) = true := beq_iff_eq.2 c1
      have c1 := Lib.hid c1
      have hok : FldOK t := { op := by have := HOP.out; omega, rune3 := fun h => absurd h (by have := HOP.out; omega), set4 := fun h => absurd h (by have := HOP.out; omega), at5 := fun _ => by rw [c1.out]; decide, name6 := fun h => absurd h (by have := HOP.out; omega), rep10 := fun h => absurd h (by have := HOP.out; omega), rune := fun _ => C0.out, set := fun _ => by rw [HSL.out]; exact C1.out, at_ := fun h => absurd HOP.out h, cap := fun _ => C3.out, name := fun _ => C4.out, mn := fun _ => C5.out, mx := fun _ => C6.out, lzy := fun _ => C7.out }
      have HOK := Lib.hid hok
      clear hok
      go_wp2_with fail
      go_ret
      exact .yes HOK.out HB.out
    have a1 : (t.at_ == 1) = false := beq_eq_false_iff_ne.2 c1
    have c1 := Lib.hid c1
    by_cases c2 : t.at_ = 2
    case pos =>
      have a2 : (t.at_ == 2) = true := beq_iff_eq.2 c2
      have c2 := Lib.hid c2
      have hok : FldOK t := { op := by have := HOP.out; omega, rune3 := fun h => absurd h (by have := HOP.out; omega), set4 := fun h => absurd h (by have := HOP.out; omega), at5 := fun _ => by rw [c2.out]; decide, name6 := fun h => absurd h (by have := HOP.out; omega), rep10 := fun h => absurd h (by have := HOP.out; omega), rune := fun _ => C0.out, set := fun _ => by rw [HSL.out]; exact C1.out, at_ := fun h => absurd HOP.out h, cap := fun _ => C3.out, name := fun _ => C4.out, mn := fun _ => C5.out, mx := fun _ => C6.out, lzy := fun _ => C7.out }
      have HOK := Lib.hid hok
      clear hok
      go_wp2_with fail
      go_ret
      exact .yes HOK.out HB.out
    have a2 : (t.at_ == 2) = false := beq_eq_false_iff_ne.2 c2
    have c2 := Lib.hid c2
    by_cases c4 : t.at_ = 4
    case pos =>
      have a4 : (t.at_ == 4) = true := beq_iff_eq.2 c4
      have c4 := Lib.hid c4
      have hok : FldOK t := { op := by have := HOP.out; omega, rune3 := fun h => absurd h (by have := HOP.out; omega), set4 := fun h => absurd h (by have := HOP.out; omega), at5 := fun _ => by rw [c4.out]; decide, name6 := fun h => absurd h (by have := HOP.out; omega), rep10 := fun h => absurd h (by have := HOP.out; omega), rune := fun _ => C0.out, set := fun _ => by rw [HSL.out]; exact C1.out, at_ := fun h => absurd HOP.out h, cap := fun _ => C3.out, name := fun _ => C4.out, mn := fun _ => C5.out, mx := fun _ => C6.out, lzy := fun _ => C7.out }
      have HOK := Lib.hid hok
      clear hok
      go_wp2_with fail
      go_ret
      exact .yes HOK.out HB.out
    have a4 : (t.at_ == 4) = false := beq_eq_false_iff_ne.2 c4
    have c4 := Lib.hid c4
    by_cases c8 : t.at_ = 8
    case pos =>
      have a8 : (t.at_ == 8) = true := beq_iff_eq.2 c8
      have c8 := Lib.hid c8
      have hok : FldOK t := { op := by have := HOP.out; omega, rune3 := fun h => absurd h (by have := HOP.out; omega), set4 := fun h => absurd h (by have := HOP.out; omega), at5 := fun _ => by rw [c8.out]; decide, name6 := fun h => absurd h (by have := HOP.out; omega), rep10 := fun h => absurd h (by have := HOP.out; omega), rune := fun _ => C0.out, set := fun _ => by rw [HSL.out]; exact C1.out, at_ := fun h => absurd HOP.out h, cap := fun _ => C3.out, name := fun _ => C4.out, mn := fun _ => C5.out, mx := fun _ => C6.out, lzy := fun _ => C7.out }
      have HOK := Lib.hid hok
      clear hok
      go_wp2_with fail
      go_ret
      exact .yes HOK.out HB.out
    have a8 : (t.at_ == 8) = false := beq_eq_false_iff_ne.2 c8
    have c8 := Lib.hid c8
    by_cases c16 : t.at_ = 16
    case pos =>
      have a16 : (t.at_ == 16) = true := beq_iff_eq.2 c16
      have c16 := Lib.hid c16
      have hok : FldOK t := { op := by have := HOP.out; omega, rune3 := fun h => absurd h (by have := HOP.out; omega), set4 := fun h => absurd h (by have := HOP.out; omega), at5 := fun _ => by rw [c16.out]; decide, name6 := fun h => absurd h (by have := HOP.out; omega), rep10 := fun h => absurd h (by have := HOP.out; omega), rune := fun _ => C0.out, set := fun _ => by rw [HSL.out]; exact C1.out, at_ := fun h => absurd HOP.out h, cap := fun _ => C3.out, name := fun _ => C4.out, mn := fun _ => C5.out, mx := fun _ => C6.out, lzy := fun _ => C7.out }
      have HOK := Lib.hid hok
      clear hok
      go_wp2_with fail
      go_ret
      exact .yes HOK.out HB.out
    have a16 : (t.at_ == 16) = false := beq_eq_false_iff_ne.2 c16
    have c16 := Lib.hid c16
    by_cases c32 : t.at_ = 32
    case pos =>
      have a32 : (t.at_ == 32) = true := beq_iff_eq.2 c32
      have c32 := Lib.hid c32
      have hok : FldOK t := { op := by have := HOP.out; omega, rune3 := fun h => absurd h (by have := HOP.out; omega), set4 := fun h => absurd h (by have := HOP.out; omega), at5 := fun _ => by rw [c32.out]; decide, name6 := fun h => absurd h (by have := HOP.out; omega), rep10 := fun h => absurd h (by have := HOP.out; omega), rune := fun _ => C0.out, set := fun _ => by rw [HSL.out]; exact C1.out, at_ := fun h => absurd HOP.out h, cap := fun _ => C3.out, name := fun _ => C4.out, mn := fun _ => C5.out, mx := fun _ => C6.out, lzy := fun _ => C7.out }
      have HOK := Lib.hid hok
      clear hok
      go_wp2_with fail
      go_ret
      exact .yes HOK.out HB.out
    have a32 : (t.at_ == 32) = false := beq_eq_false_iff_ne.2 c32
    have c32 := Lib.hid c32
    have hno : ¬ FldOK t := fun h => by (have hop := HOP.out; have := h.at5 hop; simp only [AtT, List.mem_cons, List.not_mem_nil, or_false] at this; have := c1.out; have := c2.out; have := c4.out; have := c8.out; have := c16.out; have := c32.out; omega)
    have HNO := Lib.hid hno
    clear hno
    go_wp2_with fail
    go_ret
    exact .no HNO.out HB.out
  have n5 : ¬ t.op = 5 := hop
  clear hop
  by_cases hop : t.op = 6
  case pos =>
    have d3 : (t.op == 3) = false := beq_eq_false_iff_ne.2 (by omega)
    have b3 : (t.op != 3) = true := bne_iff_ne.2 (by omega)
    have d4 : (t.op == 4) = false := beq_eq_false_iff_ne.2 (by omega)
    have b4 : (t.op != 4) = true := bne_iff_ne.2 (by omega)
    have d5 : (t.op == 5) = false := beq_eq_false_iff_ne.2 (by omega)
    have b5 : (t.op != 5) = true := bne_iff_ne.2 (by omega)
    have d6 : (t.op == 6) = true := beq_iff_eq.2 (by omega)
    have b6 : (t.op != 6) = false := bne_eq_false_iff_eq.2 (by omega)
    have d10 : (t.op == 10) = false := beq_eq_false_iff_ne.2 (by omega)
    have b10 : (t.op != 10) = true := bne_iff_ne.2 (by omega)
    have l1 : decide (t.op < 1) = false := decide_eq_false (by omega)
    have l12 : decide (12 < t.op) = false := decide_eq_false (by omega)
    have l7 : decide (t.op < 7) = true := decide_eq_true (by omega)
    have HOP := Lib.hid hop
    clear hop hr hr12
    by_cases cc : t.rune = 0
    case neg =>
      have u0 : (t.rune != 0) = true := bne_iff_ne.2 cc
      have C0 := Lib.hid cc
      clear cc
      have hno : ¬ FldOK t := fun h => by (have hop := HOP.out; exact C0.out (h.rune (by omega)))
      have HNO := Lib.hid hno
      clear hno
      go_wp2_with fail
      go_ret
      exact .no HNO.out HB.out
    have u0 : (t.rune != 0) = false := by rw [cc]; rfl
    have C0 := Lib.hid cc
    clear cc
    by_cases cc : sn = 0
    case neg =>
      have u1a : decide (0 < sn) = true := decide_eq_true (by omega)
      have u1b : decide ((0 : Int) < (sn : Int)) = true := decide_eq_true (by omega)
      have C1 := Lib.hid cc
      clear cc
      have hno : ¬ FldOK t := fun h => by (have hop := HOP.out; exact C1.out (HSL.out.symm.trans (h.set (by omega))))
      have HNO := Lib.hid hno
      clear hno
      go_wp2_with fail
      go_ret
      exact .no HNO.out HB.out
    have u1a : decide (0 < sn) = false := decide_eq_false (by omega)
    have u1b : decide ((0 : Int) < (sn : Int)) = false := decide_eq_false (by omega)
    have C1 := Lib.hid cc
    clear cc
    by_cases cc : t.at_ = 0
    case neg =>
      have u2 : (t.at_ != 0) = true := bne_iff_ne.2 cc
      have C2 := Lib.hid cc
      clear cc
      have hno : ¬ FldOK t := fun h => by (have hop := HOP.out; exact C2.out (h.at_ (by omega)))
      have HNO := Lib.hid hno
      clear hno
      go_wp2_with fail
      go_ret
      exact .no HNO.out HB.out
    have u2 : (t.at_ != 0) = false := by rw [cc]; rfl
    have C2 := Lib.hid cc
    clear cc
    go_upto_region 5 with fail
    by_cases cc : t.mn = 0
    case neg =>
      have u5 : (t.mn != 0) = true := bne_iff_ne.2 cc
      have C5 := Lib.hid cc
      clear cc
      have hno : ¬ FldOK t := fun h => by (have hop := HOP.out; exact C5.out (h.mn (by omega)))
      have HNO := Lib.hid hno
      clear hno
      go_wp2_with fail
      go_ret
      exact .no HNO.out HB.out
    have u5 : (t.mn != 0) = false := by rw [cc]; rfl
    have C5 := Lib.hid cc
    clear cc
    by_cases cc : t.mx = 0
    case neg =>
      have u6 : (t.mx != 0) = true := bne_iff_ne.2 cc
      have C6 := Lib.hid cc
      clear cc
      have hno : ¬ FldOK t := fun h => by (have hop := HOP.out; exact C6.out (h.mx (by omega)))
      have HNO := Lib.hid hno
      clear hno
      go_wp2_with fail
      go_ret
      exact .no HNO.out HB.out
    have u6 : (t.mx != 0) = false := by rw [cc]; rfl
    have C6 := Lib.hid cc
    clear cc
    go_upto_region 7 with fail
    by_cases cc : t.lzy = false
    case neg =>
      have u7 : t.lzy = true := by revert cc; cases t.lzy <;> simp
      have C7 := Lib.hid cc
      clear cc
      have hno : ¬ FldOK t := fun h => by (have hop := HOP.out; exact C7.out (h.lzy (by omega)))
      have HNO := Lib.hid hno
      clear hno
      go_wp2_with fail
      go_ret
      exact .no HNO.out HB.out
    have C7 := Lib.hid cc
    go_upto_region 9 with fail
    clear cc
    by_cases cc : t.name = ⟨#[]⟩
    case pos =>
      have u4 : t.name.toList.isEmpty = true := empty_name.2 cc
      have C4 := Lib.hid cc
      clear cc
      have hok : FldOK t := { op := by have := HOP.out; omega, rune3 := fun h => absurd h (by have := HOP.out; omega), set4 := fun h => absurd h (by have := HOP.out; omega), at5 := fun h => absurd h (by have := HOP.out; omega), name6 := fun _ => .inl C4.out, rep10 := fun h => absurd h (by have := HOP.out; omega), rune := fun _ => C0.out, set := fun _ => by rw [HSL.out]; exact C1.out, at_ := fun _ => C2.out, cap := fun h => absurd HOP.out h, name := fun h => absurd HOP.out h, mn := fun _ => C5.out, mx := fun _ => C6.out, lzy := fun _ => C7.out }
      have HOK := Lib.hid hok
      clear hok
      go_wp2_with fail
      refine (rname_any t.name HNM.out _).mono ?_
      rintro e V ⟨v, rfl, hv, hbv⟩
      obtain rfl : v = false := by cases v with | false => rfl | true => exact absurd (hv.1 rfl) (fun hh => by rw [C4.out] at hh; exact absurd hh.1 (by decide))
      have HV := Lib.hid (HB.out.trans (hbv.mono HB.out.size))
      have k6b := (HBX.out.below hbv).ten.c6
      clear hv hbv
      go_wp2_with fail
      go_ret
      exact .yes HOK.out HV.out
    have u4 : t.name.toList.isEmpty = false := by cases hh : t.name.toList.isEmpty with | false => rfl | true => exact absurd (empty_name.1 hh) cc
    have C4 := Lib.hid cc
    clear cc
    by_cases c2 : NameOk t.name
    case neg =>
      have c2 := Lib.hid c2
      have hno : ¬ FldOK t := fun h => by (have hop := HOP.out; exact (h.name6 hop).elim C4.out c2.out)
      have HNO := Lib.hid hno
      clear hno
      go_wp2_with fail
      refine (rname_any t.name HNM.out _).mono ?_
      rintro e V ⟨v, rfl, hv, hbv⟩
      obtain rfl : v = false := by cases v with | false => rfl | true => exact absurd (hv.1 rfl) c2.out
      have HV := Lib.hid (HB.out.trans (hbv.mono HB.out.size))
      have k6b := (HBX.out.below hbv).ten.c6
      clear hv hbv
      go_wp2_with fail
      go_ret
      exact .no HNO.out HV.out
    have c2 := Lib.hid c2
    have hok : FldOK t := { op := by have := HOP.out; omega, rune3 := fun h => absurd h (by have := HOP.out; omega), set4 := fun h => absurd h (by have := HOP.out; omega), at5 := fun h => absurd h (by have := HOP.out; omega), name6 := fun _ => .inr c2.out, rep10 := fun h => absurd h (by have := HOP.out; omega), rune := fun _ => C0.out, set := fun _ => by rw [HSL.out]; exact C1.out, at_ := fun _ => C2.out, cap := fun h => absurd HOP.out h, name := fun h => absurd HOP.out h, mn := fun _ => C5.out, mx := fun _ => C6.out, lzy := fun _ => C7.out }
    have HOK := Lib.hid hok
    clear hok
    go_wp2_with fail
    refine (rname_any t.name HNM.out _).mono ?_
    rintro e V ⟨v, rfl, hv, hbv⟩
    obtain rfl : v = true := hv.2 c2.out
    have HV := Lib.hid (HB.out.trans (hbv.mono HB.out.size))
    have k6b := (HBX.out.below hbv).ten.c6
    clear hv hbv
    go_wp2_with fail
    go_ret
    exact .yes HOK.out HV.out
  have n6 : ¬ t.op = 6 := hop
  clear hop
  by_cases hop : t.op = 10
  case pos =>
    have d3 : (t.op == 3) = false := beq_eq_false_iff_ne.2 (by omega)
    have b3 : (t.op != 3) = true := bne_iff_ne.2 (by omega)
    have d4 : (t.op == 4) = false := beq_eq_false_iff_ne.2 (by omega)
    have b4 : (t.op != 4) = true := bne_iff_ne.2 (by omega)
    have d5 : (t.op == 5) = false := beq_eq_false_iff_ne.2 (by omega)
    have b5 : (t.op != 5) = true := bne_iff_ne.2 (by omega)
    have d6 : (t.op == 6) = false := beq_eq_false_iff_ne.2 (by omega)
    have b6 : (t.op != 6) = true := bne_iff_ne.2 (by omega)
    have d10 : (t.op == 10) = true := beq_iff_eq.2 (by omega)
    have b10 : (t.op != 10) = false := bne_eq_false_iff_eq.2 (by omega)
    have l1 : decide (t.op < 1) = false := decide_eq_false (by omega)
    have l12 : decide (12 < t.op) = false := decide_eq_false (by omega)
    have l7 : decide (t.op < 7) = false := decide_eq_false (by omega)
    have l10 : decide (10 < t.op) = false := decide_eq_false (by omega)
    have HOP := Lib.hid hop
    clear hop hr hr12
    by_cases cc : t.rune = 0
    case neg =>
      have u0 : (t.rune != 0) = true := bne_iff_ne.2 cc
      have C0 := Lib.hid cc
      clear cc
      have hno : ¬ FldOK t := fun h => by (have hop := HOP.out; exact C0.out (h.rune (by omega)))
      have HNO := Lib.hid hno
      clear hno
      go_wp2_with fail
      go_ret
      exact .no HNO.out HB.out
    have u0 : (t.rune != 0) = false := by rw [cc]; rfl
    have C0 := Lib.hid cc
    clear cc
    by_cases cc : sn = 0
    case neg =>
      have u1a : decide (0 < sn) = true := decide_eq_true (by omega)
      have u1b : decide ((0 : Int) < (sn : Int)) = true := decide_eq_true (by omega)
      have C1 := Lib.hid cc
      clear cc
      have hno : ¬ FldOK t := fun h => by (have hop := HOP.out; exact C1.out (HSL.out.symm.trans (h.set (by omega))))
      have HNO := Lib.hid hno
      clear hno
      go_wp2_with fail
      go_ret
      exact .no HNO.out HB.out
    have u1a : decide (0 < sn) = false := decide_eq_false (by omega)
    have u1b : decide ((0 : Int) < (sn : Int)) = false := decide_eq_false (by omega)
    have C1 := Lib.hid cc
    clear cc
    by_cases cc : t.at_ = 0
    case neg =>
      have u2 : (t.at_ != 0) = true := bne_iff_ne.2 cc
      have C2 := Lib.hid cc
      clear cc
      have hno : ¬ FldOK t := fun h => by (have hop := HOP.out; exact C2.out (h.at_ (by omega)))
      have HNO := Lib.hid hno
      clear hno
      go_wp2_with fail
      go_ret
      exact .no HNO.out HB.out
    have u2 : (t.at_ != 0) = false := by rw [cc]; rfl
    have C2 := Lib.hid cc
    clear cc
    go_upto_region 5 with fail
    by_cases cc : t.cap = 0
    case neg =>
      have u3 : (t.cap != 0) = true := bne_iff_ne.2 cc
      have C3 := Lib.hid cc
      clear cc
      have hno : ¬ FldOK t := fun h => by (have hop := HOP.out; exact C3.out (h.cap (by omega)))
      have HNO := Lib.hid hno
      clear hno
      go_wp2_with fail
      go_ret
      exact .no HNO.out HB.out
    have u3 : (t.cap != 0) = false := by rw [cc]; rfl
    have C3 := Lib.hid cc
    clear cc
    by_cases cc : t.name = ⟨#[]⟩
    case neg =>
      have u4 : t.name.toList.isEmpty = false := by cases hh : t.name.toList.isEmpty with | false => rfl | true => exact absurd (empty_name.1 hh) cc
      have C4 := Lib.hid cc
      clear cc
      have hno : ¬ FldOK t := fun h => by (have hop := HOP.out; exact C4.out (h.name (by omega)))
      have HNO := Lib.hid hno
      clear hno
      go_wp2_with fail
      go_ret
      exact .no HNO.out HB.out
    have u4 : t.name.toList.isEmpty = true := empty_name.2 cc
    have C4 := Lib.hid cc
    clear cc
    go_upto_region 7 with fail
    have h77 : t.lzy = true ∨ t.lzy = false := by cases t.lzy <;> simp
    have HE : ∀ b, t.lzy = b → k9 = k9 := fun _ _ => rfl
    clear HE
    rcases h77 with h77 | h77
    · go_upto_region 9 with fail
      clear h77
      by_cases c1 : 0 ≤ t.mn
      case neg =>
        have ra : decide (t.mn < 0) = true := decide_eq_true (by omega)
        have c1 := Lib.hid c1
        have hno : ¬ FldOK t := fun h => by (have hop := HOP.out; have := h.rep10 hop; have := c1.out; omega)
        have HNO := Lib.hid hno
        clear hno
        go_wp2_with fail
        go_ret
        exact .no HNO.out HB.out
      have ra : decide (t.mn < 0) = false := decide_eq_false (by omega)
      have c1 := Lib.hid c1
      by_cases c2 : t.mn ≤ 1000
      case neg =>
        have sa : decide (1000 < t.mn) = true := decide_eq_true (by omega)
        have c2 := Lib.hid c2
        have hno : ¬ FldOK t := fun h => by (have hop := HOP.out; have := h.rep10 hop; have := c2.out; omega)
        have HNO := Lib.hid hno
        clear hno
        go_wp2_with fail
        go_ret
        exact .no HNO.out HB.out
      have sa : decide (1000 < t.mn) = false := decide_eq_false (by omega)
      have c2 := Lib.hid c2
      by_cases c3 : t.mx = -1
      case pos =>
        have u9 : (t.mx == -1) = true := beq_iff_eq.2 c3
        have c3 := Lib.hid c3
        have hok : FldOK t := { op := by have := HOP.out; omega, rune3 := fun h => absurd h (by have := HOP.out; omega), set4 := fun h => absurd h (by have := HOP.out; omega), at5 := fun h => absurd h (by have := HOP.out; omega), name6 := fun h => absurd h (by have := HOP.out; omega), rep10 := fun _ => ⟨c1.out, c2.out, .inl c3.out⟩, rune := fun _ => C0.out, set := fun _ => by rw [HSL.out]; exact C1.out, at_ := fun _ => C2.out, cap := fun _ => C3.out, name := fun _ => C4.out, mn := fun h => absurd HOP.out h, mx := fun h => absurd HOP.out h, lzy := fun h => absurd (show t.op = 7 ∨ t.op = 8 ∨ t.op = 9 ∨ t.op = 10 by have := HOP.out; omega) h }
        have HOK := Lib.hid hok
        clear hok
        go_wp2_with fail
        go_ret
        exact .yes HOK.out HB.out
      have u9 : (t.mx == -1) = false := beq_eq_false_iff_ne.2 c3
      have c3 := Lib.hid c3
      by_cases c4 : t.mn ≤ t.mx
      case neg =>
        have va : decide (t.mn ≤ t.mx) = false := decide_eq_false (by omega)
        have c4 := Lib.hid c4
        have hno : ¬ FldOK t := fun h => by (have hop := HOP.out; have := h.rep10 hop; have := c3.out; have := c4.out; omega)
        have HNO := Lib.hid hno
        clear hno
        go_wp2_with fail
        go_ret
        exact .no HNO.out HB.out
      have va : decide (t.mn ≤ t.mx) = true := decide_eq_true (by omega)
      have c4 := Lib.hid c4
      by_cases c5 : t.mx ≤ 1000
      case neg =>
        have xa : decide (t.mx ≤ 1000) = false := decide_eq_false (by omega)
        have c5 := Lib.hid c5
        have hno : ¬ FldOK t := fun h => by (have hop := HOP.out; have := h.rep10 hop; have := c3.out; have := c5.out; omega)
        have HNO := Lib.hid hno
        clear hno
        go_wp2_with fail
        go_ret
        exact .no HNO.out HB.out
      have xa : decide (t.mx ≤ 1000) = true := decide_eq_true (by omega)
      have c5 := Lib.hid c5
      have hok : FldOK t := { op := by have := HOP.out; omega, rune3 := fun h => absurd h (by have := HOP.out; omega), set4 := fun h => absurd h (by have := HOP.out; omega), at5 := fun h => absurd h (by have := HOP.out; omega), name6 := fun h => absurd h (by have := HOP.out; omega), rep10 := fun _ => ⟨c1.out, c2.out, .inr ⟨c4.out, c5.out⟩⟩, rune := fun _ => C0.out, set := fun _ => by rw [HSL.out]; exact C1.out, at_ := fun _ => C2.out, cap := fun _ => C3.out, name := fun _ => C4.out, mn := fun h => absurd HOP.out h, mx := fun h => absurd HOP.out h, lzy := fun h => absurd (show t.op = 7 ∨ t.op = 8 ∨ t.op = 9 ∨ t.op = 10 by have := HOP.out; omega) h }
      have HOK := Lib.hid hok
      clear hok
      go_wp2_with fail
      go_ret
      exact .yes HOK.out HB.out
    · go_upto_region 9 with fail
      clear h77
      by_cases c1 : 0 ≤ t.mn
      case neg =>
        have ra : decide (t.mn < 0) = true := decide_eq_true (by omega)
        have c1 := Lib.hid c1
        have hno : ¬ FldOK t := fun h => by (have hop := HOP.out; have := h.rep10 hop; have := c1.out; omega)
        have HNO := Lib.hid hno
        clear hno
        go_wp2_with fail
        go_ret
        exact .no HNO.out HB.out
      have ra : decide (t.mn < 0) = false := decide_eq_false (by omega)
      have c1 := Lib.hid c1
      by_cases c2 : t.mn ≤ 1000
      case neg =>
        have sa : decide (1000 < t.mn) = true := decide_eq_true (by omega)
        have c2 := Lib.hid c2
        have hno : ¬ FldOK t := fun h => by (have hop := HOP.out; have := h.rep10 hop; have := c2.out; omega)
        have HNO := Lib.hid hno
        clear hno
        go_wp2_with fail
        go_ret
        exact .no HNO.out HB.out
      have sa : decide (1000 < t.mn) = false := decide_eq_false (by omega)
      have c2 := Lib.hid c2
      by_cases c3 : t.mx = -1
      case pos =>
        have u9 : (t.mx == -1) = true := beq_iff_eq.2 c3
        have c3 := Lib.hid c3
        have hok : FldOK t := { op := by have := HOP.out; omega, rune3 := fun h => absurd h (by have := HOP.out; omega), set4 := fun h => absurd h (by have := HOP.out; omega), at5 := fun h => absurd h (by have := HOP.out; omega), name6 := fun h => absurd h (by have := HOP.out; omega), rep10 := fun _ => ⟨c1.out, c2.out, .inl c3.out⟩, rune := fun _ => C0.out, set := fun _ => by rw [HSL.out]; exact C1.out, at_ := fun _ => C2.out, cap := fun _ => C3.out, name := fun _ => C4.out, mn := fun h => absurd HOP.out h, mx := fun h => absurd HOP.out h, lzy := fun h => absurd (show t.op = 7 ∨ t.op = 8 ∨ t.op = 9 ∨ t.op = 10 by have := HOP.out; omega) h }
        have HOK := Lib.hid hok
        clear hok
        go_wp2_with fail
        go_ret
        exact .yes HOK.out HB.out
      have u9 : (t.mx == -1) = false := beq_eq_false_iff_ne.2 c3
      have c3 := Lib.hid c3
      by_cases c4 : t.mn ≤ t.mx
      case neg =>
        have va : decide (t.mn ≤ t.mx) = false := decide_eq_false (by omega)
        have c4 := Lib.hid c4
        have hno : ¬ FldOK t := fun h => by (have hop := HOP.out; have := h.rep10 hop; have := c3.out; have := c4.out; omega)
        have HNO := Lib.hid hno
        clear hno
        go_wp2_with fail
        go_ret
        exact .no HNO.out HB.out
      have va : decide (t.mn ≤ t.mx) = true := decide_eq_true (by omega)
      have c4 := Lib.hid c4
      by_cases c5 : t.mx ≤ 1000
      case neg =>
        have xa : decide (t.mx ≤ 1000) = false := decide_eq_false (by omega)
        have c5 := Lib.hid c5
        have hno : ¬ FldOK t := fun h => by (have hop := HOP.out; have := h.rep10 hop; have := c3.out; have := c5.out; omega)
        have HNO := Lib.hid hno
        clear hno
        go_wp2_with fail
        go_ret
        exact .no HNO.out HB.out
      have xa : decide (t.mx ≤ 1000) = true := decide_eq_true (by omega)
      have c5 := Lib.hid c5
      have hok : FldOK t := { op := by have := HOP.out; omega, rune3 := fun h => absurd h (by have := HOP.out; omega), set4 := fun h => absurd h (by have := HOP.out; omega), at5 := fun h => absurd h (by have := HOP.out; omega), name6 := fun h => absurd h (by have := HOP.out; omega), rep10 := fun _ => ⟨c1.out, c2.out, .inr ⟨c4.out, c5.out⟩⟩, rune := fun _ => C0.out, set := fun _ => by rw [HSL.out]; exact C1.out, at_ := fun _ => C2.out, cap := fun _ => C3.out, name := fun _ => C4.out, mn := fun h => absurd HOP.out h, mx := fun h => absurd HOP.out h, lzy := fun h => absurd (show t.op = 7 ∨ t.op = 8 ∨ t.op = 9 ∨ t.op = 10 by have := HOP.out; omega) h }
      have HOK := Lib.hid hok
      clear hok
      go_wp2_with fail
      go_ret
      exact .yes HOK.out HB.out
  have n10 : ¬ t.op = 10 := hop
  clear hop
  by_cases hop : 7 ≤ t.op ∧ t.op ≤ 9
  case pos =>
    have d3 : (t.op == 3) = false := beq_eq_false_iff_ne.2 (by omega)
    have b3 : (t.op != 3) = true := bne_iff_ne.2 (by omega)
    have d4 : (t.op == 4) = false := beq_eq_false_iff_ne.2 (by omega)
    have b4 : (t.op != 4) = true := bne_iff_ne.2 (by omega)
    have d5 : (t.op == 5) = false := beq_eq_false_iff_ne.2 (by omega)
    have b5 : (t.op != 5) = true := bne_iff_ne.2 (by omega)
    have d6 : (t.op == 6) = false := beq_eq_false_iff_ne.2 (by omega)
    have b6 : (t.op != 6) = true := bne_iff_ne.2 (by omega)
    have d10 : (t.op == 10) = false := beq_eq_false_iff_ne.2 (by omega)
    have b10 : (t.op != 10) = true := bne_iff_ne.2 (by omega)
    have l1 : decide (t.op < 1) = false := decide_eq_false (by omega)
    have l12 : decide (12 < t.op) = false := decide_eq_false (by omega)
    have l7 : decide (t.op < 7) = false := decide_eq_false (by omega)
    have l10 : decide (10 < t.op) = false := decide_eq_false (by omega)
    have HOP := Lib.hid hop
    clear hop hr hr12 n3 n4 n5 n6 n10
    by_cases cc : t.rune = 0
    case neg =>
      have u0 : (t.rune != 0) = true := bne_iff_ne.2 cc
      have C0 := Lib.hid cc
      clear cc
      have hno : ¬ FldOK t := fun h => by (have hop := HOP.out; exact C0.out (h.rune (by omega)))
      have HNO := Lib.hid hno
      clear hno
      go_wp2_with fail
      go_ret
      exact .no HNO.out HB.out
    have u0 : (t.rune != 0) = false := by rw [cc]; rfl
    have C0 := Lib.hid cc
    clear cc
    by_cases cc : sn = 0
    case neg =>
      have u1a : decide (0 < sn) = true := decide_eq_true (by omega)
      have u1b : decide ((0 : Int) < (sn : Int)) = true := decide_eq_true (by omega)
      have C1 := Lib.hid cc
      clear cc
      have hno : ¬ FldOK t := fun h => by (have hop := HOP.out; exact C1.out (HSL.out.symm.trans (h.set (by omega))))
      have HNO := Lib.hid hno
      clear hno
      go_wp2_with fail
      go_ret
      exact .no HNO.out HB.out
    have u1a : decide (0 < sn) = false := decide_eq_false (by omega)
    have u1b : decide ((0 : Int) < (sn : Int)) = false := decide_eq_false (by omega)
    have C1 := Lib.hid cc
    clear cc
    by_cases cc : t.at_ = 0
    case neg =>
      have u2 : (t.at_ != 0) = true := bne_iff_ne.2 cc
      have C2 := Lib.hid cc
      clear cc
      have hno : ¬ FldOK t := fun h => by (have hop := HOP.out; exact C2.out (h.at_ (by omega)))
      have HNO := Lib.hid hno
      clear hno
      go_wp2_with fail
      go_ret
      exact .no HNO.out HB.out
    have u2 : (t.at_ != 0) = false := by rw [cc]; rfl
    have C2 := Lib.hid cc
    clear cc
    go_upto_region 5 with fail
    by_cases cc : t.cap = 0
    case neg =>
      have u3 : (t.cap != 0) = true := bne_iff_ne.2 cc
      have C3 := Lib.hid cc
      clear cc
      have hno : ¬ FldOK t := fun h => by (have hop := HOP.out; exact C3.out (h.cap (by omega)))
      have HNO := Lib.hid hno
      clear hno
      go_wp2_with fail
      go_ret
      exact .no HNO.out HB.out
    have u3 : (t.cap != 0) = false := by rw [cc]; rfl
    have C3 := Lib.hid cc
    clear cc
    by_cases cc : t.name = ⟨#[]⟩
    case neg =>
      have u4 : t.name.toList.isEmpty = false := by cases hh : t.name.toList.isEmpty with | false => rfl | true => exact absurd (empty_name.1 hh) cc
      have C4 := Lib.hid cc
      clear cc
      have hno : ¬ FldOK t := fun h => by (have hop := HOP.out; exact C4.out (h.name (by omega)))
      have HNO := Lib.hid hno
      clear hno
      go_wp2_with fail
      go_ret
      exact .no HNO.out HB.out
    have u4 : t.name.toList.isEmpty = true := empty_name.2 cc
    have C4 := Lib.hid cc
    clear cc
    by_cases cc : t.mn = 0
    case neg =>
      have u5 : (t.mn != 0) = true := bne_iff_ne.2 cc
      have C5 := Lib.hid cc
      clear cc
      have hno : ¬ FldOK t := fun h => by (have hop := HOP.out; exact C5.out (h.mn (by omega)))
      have HNO := Lib.hid hno
      clear hno
      go_wp2_with fail
      go_ret
      exact .no HNO.out HB.out
    have u5 : (t.mn != 0) = false := by rw [cc]; rfl
    have C5 := Lib.hid cc
    clear cc
    by_cases cc : t.mx = 0
    case neg =>
      have u6 : (t.mx != 0) = true := bne_iff_ne.2 cc
      have C6 := Lib.hid cc
      clear cc
      have hno : ¬ FldOK t := fun h => by (have hop := HOP.out; exact C6.out (h.mx (by omega)))
      have HNO := Lib.hid hno
      clear hno
      go_wp2_with fail
      go_ret
      exact .no HNO.out HB.out
    have u6 : (t.mx != 0) = false := by rw [cc]; rfl
    have C6 := Lib.hid cc
    clear cc
    go_upto_region 7 with fail
    have h77 : t.lzy = true ∨ t.lzy = false := by cases t.lzy <;> simp
    have HE : ∀ b, t.lzy = b → k9 = k9 := fun _ _ => rfl
    clear HE
    rcases h77 with h77 | h77
    · go_upto_region 9 with fail
      clear h77
      have hok : FldOK t := { op := by have := HOP.out; omega, rune3 := fun h => absurd h (by have := HOP.out; omega), set4 := fun h => absurd h (by have := HOP.out; omega), at5 := fun h => absurd h (by have := HOP.out; omega), name6 := fun h => absurd h (by have := HOP.out; omega), rep10 := fun h => absurd h (by have := HOP.out; omega), rune := fun _ => C0.out, set := fun _ => by rw [HSL.out]; exact C1.out, at_ := fun _ => C2.out, cap := fun _ => C3.out, name := fun _ => C4.out, mn := fun _ => C5.out, mx := fun _ => C6.out, lzy := fun h => absurd (show t.op = 7 ∨ t.op = 8 ∨ t.op = 9 ∨ t.op = 10 by have := HOP.out; omega) h }
      have HOK := Lib.hid hok
      clear hok
      go_wp2_with fail
      go_ret
      exact .yes HOK.out HB.out
    · go_upto_region 9 with fail
      clear h77
      have hok : FldOK t := { op := by have := HOP.out; omega, rune3 := fun h => absurd h (by have := HOP.out; omega), set4 := fun h => absurd h (by have := HOP.out; omega), at5 := fun h => absurd h (by have := HOP.out; omega), name6 := fun h => absurd h (by have := HOP.out; omega), rep10 := fun h => absurd h (by have := HOP.out; omega), rune := fun _ => C0.out, set := fun _ => by rw [HSL.out]; exact C1.out, at_ := fun _ => C2.out, cap := fun _ => C3.out, name := fun _ => C4.out, mn := fun _ => C5.out, mx := fun _ => C6.out, lzy := fun h => absurd (show t.op = 7 ∨ t.op = 8 ∨ t.op = 9 ∨ t.op = 10 by have := HOP.out; omega) h }
      have HOK := Lib.hid hok
      clear hok
      go_wp2_with fail
      go_ret
      exact .yes HOK.out HB.out
  have hop2 : (t.op = 1 ∨ t.op = 2) ∨ (t.op = 11 ∨ t.op = 12) := by omega
  clear hop
  rcases hop2 with hop | hop
  · have d3 : (t.op == 3) = false := beq_eq_false_iff_ne.2 (by omega)
    have b3 : (t.op != 3) = true := bne_iff_ne.2 (by omega)
    have d4 : (t.op == 4) = false := beq_eq_false_iff_ne.2 (by omega)
    have b4 : (t.op != 4) = true := bne_iff_ne.2 (by omega)
    have d5 : (t.op == 5) = false := beq_eq_false_iff_ne.2 (by omega)
    have b5 : (t.op != 5) = true := bne_iff_ne.2 (by omega)
    have d6 : (t.op == 6) = false := beq_eq_false_iff_ne.2 (by omega)
    have b6 : (t.op != 6) = true := bne_iff_ne.2 (by omega)
    have d10 : (t.op == 10) = false := beq_eq_false_iff_ne.2 (by omega)
    have b10 : (t.op != 10) = true := bne_iff_ne.2 (by omega)
    have l1 : decide (t.op < 1) = false := decide_eq_false (by omega)
    have l12 : decide (12 < t.op) = false := decide_eq_false (by omega)
    have l7 : decide (t.op < 7) = true := decide_eq_true (by omega)
    have HOP := Lib.hid hop
    clear hop hr hr12 n3 n4 n5 n6 n10
    by_cases cc : t.rune = 0
    case neg =>
      have u0 : (t.rune != 0) = true := bne_iff_ne.2 cc
      have C0 := Lib.hid cc
      clear cc
      have hno : ¬ FldOK t := fun h => by (have hop := HOP.out; exact C0.out (h.rune (by omega)))
      have HNO := Lib.hid hno
      clear hno
      go_wp2_with fail
      go_ret
      exact .no HNO.out HB.out
    have u0 : (t.rune != 0) = false := by rw [cc]; rfl
    have C0 := Lib.hid cc
    clear cc
    by_cases cc : sn = 0
    case neg =>
      have u1a : decide (0 < sn) = true := decide_eq_true (by omega)
      have u1b : decide ((0 : Int) < (sn : Int)) = true := decide_eq_true (by omega)
      have C1 := Lib.hid cc
      clear cc
      have hno : ¬ FldOK t := fun h => by (have hop := HOP.out; exact C1.out (HSL.out.symm.trans (h.set (by omega))))
      have HNO := Lib.hid hno
      clear hno
      go_wp2_with fail
      go_ret
      exact .no HNO.out HB.out
    have u1a : decide (0 < sn) = false := decide_eq_false (by omega)
    have u1b : decide ((0 : Int) < (sn : Int)) = false := decide_eq_false (by omega)
    have C1 := Lib.hid cc
    clear cc
    by_cases cc : t.at_ = 0
    case neg =>
      have u2 : (t.at_ != 0) = true := bne_iff_ne.2 cc
      have C2 := Lib.hid cc
      clear cc
      have hno : ¬ FldOK t := fun h => by (have hop := HOP.out; exact C2.out (h.at_ (by omega)))
      have HNO := Lib.hid hno
      clear hno
      go_wp2_with fail
      go_ret
      exact .no HNO.out HB.out
    have u2 : (t.at_ != 0) = false := by rw [cc]; rfl
    have C2 := Lib.hid cc
    clear cc
    go_upto_region 5 with fail
    by_cases cc : t.cap = 0
    case neg =>
      have u3 : (t.cap != 0) = true := bne_iff_ne.2 cc
      have C3 := Lib.hid cc
      clear cc
      have hno : ¬ FldOK t := fun h => by (have hop := HOP.out; exact C3.out (h.cap (by omega)))
      have HNO := Lib.hid hno
      clear hno
      go_wp2_with fail
      go_ret
      exact .no HNO.out HB.out
    have u3 : (t.cap != 0) = false := by rw [cc]; rfl
    have C3 := Lib.hid cc
    clear cc
    by_cases cc : t.name = ⟨#[]⟩
    case neg =>
      have u4 : t.name.toList.isEmpty = false := by cases hh : t.name.toList.isEmpty with | false => rfl | true => exact absurd (empty_name.1 hh) cc
      have C4 := Lib.hid cc
      clear cc
      have hno : ¬ FldOK t := fun h => by (have hop := HOP.out; exact C4.out (h.name (by omega)))
      have HNO := Lib.hid hno
      clear hno
      go_wp2_with fail
      go_ret
      exact .no HNO.out HB.out
    have u4 : t.name.toList.isEmpty = true := empty_name.2 cc
    have C4 := Lib.hid cc
    clear cc
    by_cases cc : t.mn = 0
    case neg =>
      have u5 : (t.mn != 0) = true := bne_iff_ne.2 cc
      have C5 := Lib.hid cc
      clear cc
      have hno : ¬ FldOK t := fun h => by (have hop := HOP.out; exact C5.out (h.mn (by omega)))
      have HNO := Lib.hid hno
      clear hno
      go_wp2_with fail
      go_ret
      exact .no HNO.out HB.out
    have u5 : (t.mn != 0) = false := by rw [cc]; rfl
    have C5 := Lib.hid cc
    clear cc
    by_cases cc : t.mx = 0
    case neg =>
      have u6 : (t.mx != 0) = true := bne_iff_ne.2 cc
      have C6 := Lib.hid cc
      clear cc
      have hno : ¬ FldOK t := fun h => by (have hop := HOP.out; exact C6.out (h.mx (by omega)))
      have HNO := Lib.hid hno
      clear hno
      go_wp2_with fail
      go_ret
      exact .no HNO.out HB.out
    have u6 : (t.mx != 0) = false := by rw [cc]; rfl
    have C6 := Lib.hid cc
    clear cc
    go_upto_region 7 with fail
    by_cases cc : t.lzy = false
    case neg =>
      have u7 : t.lzy = true := by revert cc; cases t.lzy <;> simp
      have C7 := Lib.hid cc
      clear cc
      have hno : ¬ FldOK t := fun h => by (have hop := HOP.out; exact C7.out (h.lzy (by omega)))
      have HNO := Lib.hid hno
      clear hno
      go_wp2_with fail
      go_ret
      exact .no HNO.out HB.out
    have C7 := Lib.hid cc
    go_upto_region 9 with fail
    clear cc
    have hok : FldOK t := { op := by have := HOP.out; omega, rune3 := fun h => absurd h (by have := HOP.out; omega), set4 := fun h => absurd h (by have := HOP.out; omega), at5 := fun h => absurd h (by have := HOP.out; omega), name6 := fun h => absurd h (by have := HOP.out; omega), rep10 := fun h => absurd h (by have := HOP.out; omega), rune := fun _ => C0.out, set := fun _ => by rw [HSL.out]; exact C1.out, at_ := fun _ => C2.out, cap := fun _ => C3.out, name := fun _ => C4.out, mn := fun _ => C5.out, mx := fun _ => C6.out, lzy := fun _ => C7.out }
    have HOK := Lib.hid hok
    clear hok
    go_wp2_with fail
    go_ret
    exact .yes HOK.out HB.out
  · have d3 : (t.op == 3) = false := beq_eq_false_iff_ne.2 (by omega)
    have b3 : (t.op != 3) = true := bne_iff_ne.2 (by omega)
    have d4 : (t.op == 4) = false := beq_eq_false_iff_ne.2 (by omega)
    have b4 : (t.op != 4) = true := bne_iff_ne.2 (by omega)
    have d5 : (t.op == 5) = false := beq_eq_false_iff_ne.2 (by omega)
    have b5 : (t.op != 5) = true := bne_iff_ne.2 (by omega)
    have d6 : (t.op == 6) = false := beq_eq_false_iff_ne.2 (by omega)
    have b6 : (t.op != 6) = true := bne_iff_ne.2 (by omega)
    have d10 : (t.op == 10) = false := beq_eq_false_iff_ne.2 (by omega)
    have b10 : (t.op != 10) = true := bne_iff_ne.2 (by omega)
    have l1 : decide (t.op < 1) = false := decide_eq_false (by omega)
    have l12 : decide (12 < t.op) = false := decide_eq_false (by omega)
    have l7 : decide (t.op < 7) = false := decide_eq_false (by omega)
    have l10 : decide (10 < t.op) = true := decide_eq_true (by omega)
    have HOP := Lib.hid hop
    clear hop hr hr12 n3 n4 n5 n6 n10
    by_cases cc : t.rune = 0
    case neg =>
      have u0 : (t.rune != 0) = true := bne_iff_ne.2 cc
      have C0 := Lib.hid cc
      clear cc
      have hno : ¬ FldOK t := fun h => by (have hop := HOP.out; exact C0.out (h.rune (by omega)))
      have HNO := Lib.hid hno
      clear hno
      go_wp2_with fail
      go_ret
      exact .no HNO.out HB.out
    have u0 : (t.rune != 0) = false := by rw [cc]; rfl
    have C0 := Lib.hid cc
    clear cc
    by_cases cc : sn = 0
    case neg =>
      have u1a : decide (0 < sn) = true := decide_eq_true (by omega)
      have u1b : decide ((0 : Int) < (sn : Int)) = true := decide_eq_true (by omega)
      have C1 := Lib.hid cc
      clear cc
      have hno : ¬ FldOK t := fun h => by (have hop := HOP.out; exact C1.out (HSL.out.symm.trans (h.set (by omega))))
      have HNO := Lib.hid hno
      clear hno
      go_wp2_with fail
      go_ret
      exact .no HNO.out HB.out
    have u1a : decide (0 < sn) = false := decide_eq_false (by omega)
    have u1b : decide ((0 : Int) < (sn : Int)) = false := decide_eq_false (by omega)
    have C1 := Lib.hid cc
    clear cc
    by_cases cc : t.at_ = 0
    case neg =>
      have u2 : (t.at_ != 0) = true := bne_iff_ne.2 cc
      have C2 := Lib.hid cc
      clear cc
      have hno : ¬ FldOK t := fun h => by (have hop := HOP.out; exact C2.out (h.at_ (by omega)))
      have HNO := Lib.hid hno
      clear hno
      go_wp2_with fail
      go_ret
      exact .no HNO.out HB.out
    have u2 : (t.at_ != 0) = false := by rw [cc]; rfl
    have C2 := Lib.hid cc
    clear cc
    go_upto_region 5 with fail
    by_cases cc : t.cap = 0
    case neg =>
      have u3 : (t.cap != 0) = true := bne_iff_ne.2 cc
      have C3 := Lib.hid cc
      clear cc
      have hno : ¬ FldOK t := fun h => by (have hop := HOP.out; exact C3.out (h.cap (by omega)))
      have HNO := Lib.hid hno
      clear hno
      go_wp2_with fail
      go_ret
      exact .no HNO.out HB.out
    have u3 : (t.cap != 0) = false := by rw [cc]; rfl
    have C3 := Lib.hid cc
    clear cc
    by_cases cc : t.name = ⟨#[]⟩
    case neg =>
      have u4 : t.name.toList.isEmpty = false := by cases hh : t.name.toList.isEmpty with | false => rfl | true => exact absurd (empty_name.1 hh) cc
      have C4 := Lib.hid cc
      clear cc
      have hno : ¬ FldOK t := fun h => by (have hop := HOP.out; exact C4.out (h.name (by omega)))
      have HNO := Lib.hid hno
      clear hno
      go_wp2_with fail
      go_ret
      exact .no HNO.out HB.out
    have u4 : t.name.toList.isEmpty = true := empty_name.2 cc
    have C4 := Lib.hid cc
    clear cc
    by_cases cc : t.mn = 0
    case neg =>
      have u5 : (t.mn != 0) = true := bne_iff_ne.2 cc
      have C5 := Lib.hid cc
      clear cc
      have hno : ¬ FldOK t := fun h => by (have hop := HOP.out; exact C5.out (h.mn (by omega)))
      have HNO := Lib.hid hno
      clear hno
      go_wp2_with fail
      go_ret
      exact .no HNO.out HB.out
    have u5 : (t.mn != 0) = false := by rw [cc]; rfl
    have C5 := Lib.hid cc
    clear cc
    by_cases cc : t.mx = 0
    case neg =>
      have u6 : (t.mx != 0) = true := bne_iff_ne.2 cc
      have C6 := Lib.hid cc
      clear cc
      have hno : ¬ FldOK t := fun h => by (have hop := HOP.out; exact C6.out (h.mx (by omega)))
      have HNO := Lib.hid hno
      clear hno
      go_wp2_with fail
      go_ret
      exact .no HNO.out HB.out
    have u6 : (t.mx != 0) = false := by rw [cc]; rfl
    have C6 := Lib.hid cc
    clear cc
    go_upto_region 7 with fail
    by_cases cc : t.lzy = false
    case neg =>
      have u7 : t.lzy = true := by revert cc; cases t.lzy <;> simp
      have C7 := Lib.hid cc
      clear cc
      have hno : ¬ FldOK t := fun h => by (have hop := HOP.out; exact C7.out (h.lzy (by omega)))
      have HNO := Lib.hid hno
      clear hno
      go_wp2_with fail
      go_ret
      exact .no HNO.out HB.out
    have C7 := Lib.hid cc
    go_upto_region 9 with fail
    clear cc
    have hok : FldOK t := { op := by have := HOP.out; omega, rune3 := fun h => absurd h (by have := HOP.out; omega), set4 := fun h => absurd h (by have := HOP.out; omega), at5 := fun h => absurd h (by have := HOP.out; omega), name6 := fun h => absurd h (by have := HOP.out; omega), rep10 := fun h => absurd h (by have := HOP.out; omega), rune := fun _ => C0.out, set := fun _ => by rw [HSL.out]; exact C1.out, at_ := fun _ => C2.out, cap := fun _ => C3.out, name := fun _ => C4.out, mn := fun _ => C5.out, mx := fun _ => C6.out, lzy := fun _ => C7.out }
    have HOK := Lib.hid hok
    clear hok
    go_wp2_with fail
    go_ret
    exact .yes HOK.out HB.out
end Go.Proofs.Ytbhcgjahlfpjoaa
