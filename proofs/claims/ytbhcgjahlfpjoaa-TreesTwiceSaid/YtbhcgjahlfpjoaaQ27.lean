/- May a tree fit nothing: plain; the reference's empty and Empty: the walks. -/
import Derived.Test.YtbhcgjahlfpjoaaQ25
namespace Go.Proofs.Ytbhcgjahlfpjoaa
open Go.RowKit

mutual
/-- May a tree fit nothing? -/
def Tr.emp : Tr → Bool
  | ⟨op, l, _, _, _, _, _, mn, _, _⟩ => if op = 1 ∨ op = 3 ∨ op = 4 then false else if op = 6 ∨ op = 8 ∨ op = 11 then Tr.empAll l else if op = 10 then (decide (mn = 0) || Tr.empAll l) else if op = 12 then Tr.empAny l else true
def Tr.empAll : List Tr → Bool
  | [] => true
  | k :: l => Tr.emp k && Tr.empAll l
def Tr.empAny : List Tr → Bool
  | [] => false
  | k :: l => Tr.emp k || Tr.empAny l
end
theorem Tr.emp_eq (t : Tr) : t.emp = if t.op = 1 ∨ t.op = 3 ∨ t.op = 4 then false else if t.op = 6 ∨ t.op = 8 ∨ t.op = 11 then Tr.empAll t.kids else if t.op = 10 then (decide (t.mn = 0) || Tr.empAll t.kids) else if t.op = 12 then Tr.empAny t.kids else true := by cases t; rw [Tr.emp]
theorem Tr.empAll_app : ∀ a b : List Tr, Tr.empAll (a ++ b) = (Tr.empAll a && Tr.empAll b)
  | [], b => by rw [List.nil_append, Tr.empAll, Bool.true_and]
  | k :: a, b => by rw [List.cons_append, Tr.empAll, Tr.empAll, Tr.empAll_app a b, Bool.and_assoc]
theorem Tr.empAny_app : ∀ a b : List Tr, Tr.empAny (a ++ b) = (Tr.empAny a || Tr.empAny b)
  | [], b => by rw [List.nil_append, Tr.empAny, Bool.false_or]
  | k :: a, b => by rw [List.cons_append, Tr.empAny, Tr.empAny, Tr.empAny_app a b, Bool.or_assoc]
theorem Tr.empAll_take {l : List Tr} {j : Nat} {k : Tr} (h : l[j]? = some k) : Tr.empAll (l.take (j + 1)) = (Tr.empAll (l.take j) && k.emp) := by
  rw [take_snoc h, Tr.empAll_app, Tr.empAll, Tr.empAll, Bool.and_true]
theorem Tr.empAny_take {l : List Tr} {j : Nat} {k : Tr} (h : l[j]? = some k) : Tr.empAny (l.take (j + 1)) = (Tr.empAny (l.take j) || k.emp) := by
  rw [take_snoc h, Tr.empAny_app, Tr.empAny, Tr.empAny, Bool.or_false]
theorem Tr.empAll_no {l : List Tr} {j : Nat} {k : Tr} (h : l[j]? = some k) (hk : k.emp = false) : Tr.empAll l = false := by
  have h1 := Tr.empAll_app (l.take (j + 1)) (l.drop (j + 1))
  rw [List.take_append_drop, Tr.empAll_take h, hk] at h1
  simpa using h1
theorem Tr.empAny_yes {l : List Tr} {j : Nat} {k : Tr} (h : l[j]? = some k) (hk : k.emp = true) : Tr.empAny l = true := by
  have h1 := Tr.empAny_app (l.take (j + 1)) (l.drop (j + 1))
  rw [List.take_append_drop, Tr.empAny_take h, hk] at h1
  simpa using h1
/-- Has each part an Op? -/
def OpsP (t : Tr) : Prop := ∀ q ∈ t.all, 1 ≤ q.op ∧ q.op ≤ 12
theorem RightP.ops {t : Tr} (h : RightP t) : OpsP t := fun q hq => (h.2.2.1 q hq).op
theorem OpsP.self {t : Tr} (h : OpsP t) : 1 ≤ t.op ∧ t.op ≤ 12 := h t (by rw [Tr.all_eq]; exact List.mem_cons_self ..)
theorem OpsP.kid {t k : Tr} (h : OpsP t) (hk : k ∈ t.kids) : OpsP k := fun q hq => by
  obtain ⟨i, hi⟩ := List.mem_iff_getElem?.1 hk
  exact h q (by rw [Tr.all_eq]; exact List.mem_cons_of_mem _ (allL_mem hi hq))

set_option maxRecDepth 20000 in
set_option maxHeartbeats 8000000 in
theorem rempty_any : ∀ (t : Tr) {w : World} {kA : Option Addr} {kn kc : Nat} {sA : Option Addr} {sn sc : Nat}, TIn w t ⟨kA, kn, kc, sA, sn, sc⟩ → t.parts ≤ 20000 → OpsP t → Calls Try.prog 64 #[.agg #[.int .i64 t.op, .slice kA kn kc, .int .i32 t.rune, .slice sA sn sc, .int .i64 t.at_, .int .i64 t.cap, .string t.name, .int .i64 t.mn, .int .i64 t.mx, .bool t.lzy]] w (YesB (t.emp = true) w) := by
  intro t
  induction t using Tr.ind with
  | h t ih =>
  intro w kA kn kc sA sn sc hT hp hO
  have hb : Below w.heap.size w (w.alloc (.cells #[.int .i64 t.op, .slice kA kn kc, .int .i32 t.rune, .slice sA sn sc, .int .i64 t.at_, .int .i64 t.cap, .string t.name, .int .i64 t.mn, .int .i64 t.mx, .bool t.lzy] 27)) := (Below.refl _ _).alloc (Nat.le_refl _) _
  have hB := TBox.newV w t kA kn kc sA sn sc
  have hkp : ∀ k ∈ t.kids, k.parts ≤ 20000 := fun k hk => by have := Tr.partsL_le hk; rw [Tr.parts_eq] at hp; omega
  have hkn : kn ≤ 20000 := by have := Tr.len_le_partsL t.kids; rw [Tr.parts_eq] at hp; obtain ⟨ka, hK⟩ := hT.kidsV; have := hK.len; omega
  obtain ⟨ka, hK⟩ := (hT.on hb).kidsV
  have h10 := hB.ten
  have k0 := h10.c0
  have k1 := h10.c1
  have k2 := h10.c2
  have k3 := h10.c3
  have k4 := h10.c4
  have k5 := h10.c5
  have k6 := h10.c6
  have k7 := h10.c7
  have k8 := h10.c8
  have k9 := h10.c9
  dsimp only at k1 k3
  have hop := hO.self
  have HOO := Lib.hid hO
  have HK := Lib.hid hK
  have HB := Lib.hid hb
  have HBX := Lib.hid hB
  have HP := Lib.hid hkp
  have IH := Lib.hid ih
  have HE := Lib.hid t.emp_eq
  clear hb hB hkp ih hT hp h10 hK hO
  go_enter Try.func64, Try.ntmps64
  go_upto_region 1 with fail
  generalize w.alloc (.cells #[.int .i64 t.op, .slice kA kn kc, .int .i32 t.rune, .slice sA sn sc, .int .i64 t.at_, .int .i64 t.cap, .string t.name, .int .i64 t.mn, .int .i64 t.mx, .bool t.lzy] 27) = w0 at HB HBX HK k0 k1 k2 k3 k4 k5 k6 k7 k8 k9 ⊢
  by_cases hop1 : t.op = 1
  case pos =>
    have d1 : (t.op == 1) = true := beq_iff_eq.2 (by omega)
    have d2 : (t.op == 2) = false := beq_eq_false_iff_ne.2 (by omega)
    have d3 : (t.op == 3) = false := beq_eq_false_iff_ne.2 (by omega)
    have d4 : (t.op == 4) = false := beq_eq_false_iff_ne.2 (by omega)
    have d5 : (t.op == 5) = false := beq_eq_false_iff_ne.2 (by omega)
    have d7 : (t.op == 7) = false := beq_eq_false_iff_ne.2 (by omega)
    have d9 : (t.op == 9) = false := beq_eq_false_iff_ne.2 (by omega)
    have d10 : (t.op == 10) = false := beq_eq_false_iff_ne.2 (by omega)
    have d12 : (t.op == 12) = false := beq_eq_false_iff_ne.2 (by omega)
    have b12 : (t.op != 12) = true := bne_iff_ne.2 (by omega)
    have HEV : Hid (t.emp = false) := Lib.hid (by rw [HE.out, if_pos (by omega)])
    clear hop1 hop
    have HNO : Hid (¬ t.emp = true) := Lib.hid (by rw [HEV.out]; simp)
    go_wp2_with fail
    go_ret
    exact .no HNO.out HB.out
  have n1 := hop1
  clear hop1
  by_cases hop1 : t.op = 3
  case pos =>
    have d1 : (t.op == 1) = false := beq_eq_false_iff_ne.2 (by omega)
    have d2 : (t.op == 2) = false := beq_eq_false_iff_ne.2 (by omega)
    have d3 : (t.op == 3) = true := beq_iff_eq.2 (by omega)
    have d4 : (t.op == 4) = false := beq_eq_false_iff_ne.2 (by omega)
    have d5 : (t.op == 5) = false := beq_eq_false_iff_ne.2 (by omega)
    have d7 : (t.op == 7) = false := beq_eq_false_iff_ne.2 (by omega)
    have d9 : (t.op == 9) = false := beq_eq_false_iff_ne.2 (by omega)
    have d10 : (t.op == 10) = false := beq_eq_false_iff_ne.2 (by omega)
    have d12 : (t.op == 12) = false := beq_eq_false_iff_ne.2 (by omega)
    have b12 : (t.op != 12) = true := bne_iff_ne.2 (by omega)
    have HEV : Hid (t.emp = false) := Lib.hid (by rw [HE.out, if_pos (by omega)])
    clear hop1 hop
    have HNO : Hid (¬ t.emp = true) := Lib.hid (by rw [HEV.out]; simp)
    go_wp2_with fail
    go_ret
    exact .no HNO.out HB.out
  have n3 := hop1
  clear hop1
  by_cases hop1 : t.op = 4
  case pos =>
    have d1 : (t.op == 1) = false := beq_eq_false_iff_ne.2 (by omega)
    have d2 : (t.op == 2) = false := beq_eq_false_iff_ne.2 (by omega)
    have d3 : (t.op == 3) = false := beq_eq_false_iff_ne.2 (by omega)
    have d4 : (t.op == 4) = true := beq_iff_eq.2 (by omega)
    have d5 : (t.op == 5) = false := beq_eq_false_iff_ne.2 (by omega)
    have d7 : (t.op == 7) = false := beq_eq_false_iff_ne.2 (by omega)
    have d9 : (t.op == 9) = false := beq_eq_false_iff_ne.2 (by omega)
    have d10 : (t.op == 10) = false := beq_eq_false_iff_ne.2 (by omega)
    have d12 : (t.op == 12) = false := beq_eq_false_iff_ne.2 (by omega)
    have b12 : (t.op != 12) = true := bne_iff_ne.2 (by omega)
    have HEV : Hid (t.emp = false) := Lib.hid (by rw [HE.out, if_pos (by omega)])
    clear hop1 hop
    have HNO : Hid (¬ t.emp = true) := Lib.hid (by rw [HEV.out]; simp)
    go_wp2_with fail
    go_ret
    exact .no HNO.out HB.out
  have n4 := hop1
  clear hop1
  by_cases hop1 : t.op = 2
  case pos =>
    have d1 : (t.op == 1) = false := beq_eq_false_iff_ne.2 (by omega)
    have d2 : (t.op == 2) = true := beq_iff_eq.2 (by omega)
    have d3 : (t.op == 3) = false := beq_eq_false_iff_ne.2 (by omega)
    have d4 : (t.op == 4) = false := beq_eq_false_iff_ne.2 (by omega)
    have d5 : (t.op == 5) = false := beq_eq_false_iff_ne.2 (by omega)
    have d7 : (t.op == 7) = false := beq_eq_false_iff_ne.2 (by omega)
    have d9 : (t.op == 9) = false := beq_eq_false_iff_ne.2 (by omega)
    have d10 : (t.op == 10) = false := beq_eq_false_iff_ne.2 (by omega)
    have d12 : (t.op == 12) = false := beq_eq_false_iff_ne.2 (by omega)
    have b12 : (t.op != 12) = true := bne_iff_ne.2 (by omega)
    have HEV : Hid (t.emp = true) := Lib.hid (by rw [HE.out, if_neg (by omega), if_neg (by omega), if_neg (by omega), if_neg (by omega)])
    clear hop1 hop
    go_wp2_with fail
    go_ret
    exact .yes HEV.out HB.out
  have n2 := hop1
  clear hop1
  by_cases hop1 : t.op = 5
  case pos =>
    have d1 : (t.op == 1) = false := beq_eq_false_iff_ne.2 (by omega)
    have d2 : (t.op == 2) = false := beq_eq_false_iff_ne.2 (by omega)
    have d3 : (t.op == 3) = false := beq_eq_false_iff_ne.2 (by omega)
    have d4 : (t.op == 4) = false := beq_eq_false_iff_ne.2 (by omega)
    have d5 : (t.op == 5) = true := beq_iff_eq.2 (by omega)
    have d7 : (t.op == 7) = false := beq_eq_false_iff_ne.2 (by omega)
    have d9 : (t.op == 9) = false := beq_eq_false_iff_ne.2 (by omega)
    have d10 : (t.op == 10) = false := beq_eq_false_iff_ne.2 (by omega)
    have d12 : (t.op == 12) = false := beq_eq_false_iff_ne.2 (by omega)
    have b12 : (t.op != 12) = true := bne_iff_ne.2 (by omega)
    have HEV : Hid (t.emp = true) := Lib.hid (by rw [HE.out, if_neg (by omega), if_neg (by omega), if_neg (by omega), if_neg (by omega)])
    clear hop1 hop
    go_wp2_with fail
    go_ret
    exact .yes HEV.out HB.out
  have n5 := hop1
  clear hop1
  by_cases hop1 : t.op = 7
  case pos =>
    have d1 : (t.op == 1) = false := beq_eq_false_iff_ne.2 (by omega)
    have d2 : (t.op == 2) = false := beq_eq_false_iff_ne.2 (by omega)
    have d3 : (t.op == 3) = false := beq_eq_false_iff_ne.2 (by omega)
    have d4 : (t.op == 4) = false := beq_eq_false_iff_ne.2 (by omega)
    have d5 : (t.op == 5) = false := beq_eq_false_iff_ne.2 (by omega)
    have d7 : (t.op == 7) = true := beq_iff_eq.2 (by omega)
    have d9 : (t.op == 9) = false := beq_eq_false_iff_ne.2 (by omega)
    have d10 : (t.op == 10) = false := beq_eq_false_iff_ne.2 (by omega)
    have d12 : (t.op == 12) = false := beq_eq_false_iff_ne.2 (by omega)
    have b12 : (t.op != 12) = true := bne_iff_ne.2 (by omega)
    have HEV : Hid (t.emp = true) := Lib.hid (by rw [HE.out, if_neg (by omega), if_neg (by omega), if_neg (by omega), if_neg (by omega)])
    clear hop1 hop
    go_wp2_with fail
    go_ret
    exact .yes HEV.out HB.out
  have n7 := hop1
  clear hop1
  by_cases hop1 : t.op = 9
  case pos =>
    have d1 : (t.op == 1) = false := beq_eq_false_iff_ne.2 (by omega)
    have d2 : (t.op == 2) = false := beq_eq_false_iff_ne.2 (by omega)
    have d3 : (t.op == 3) = false := beq_eq_false_iff_ne.2 (by omega)
    have d4 : (t.op == 4) = false := beq_eq_false_iff_ne.2 (by omega)
    have d5 : (t.op == 5) = false := beq_eq_false_iff_ne.2 (by omega)
    have d7 : (t.op == 7) = false := beq_eq_false_iff_ne.2 (by omega)
    have d9 : (t.op == 9) = true := beq_iff_eq.2 (by omega)
    have d10 : (t.op == 10) = false := beq_eq_false_iff_ne.2 (by omega)
    have d12 : (t.op == 12) = false := beq_eq_false_iff_ne.2 (by omega)
    have b12 : (t.op != 12) = true := bne_iff_ne.2 (by omega)
    have HEV : Hid (t.emp = true) := Lib.hid (by rw [HE.out, if_neg (by omega), if_neg (by omega), if_neg (by omega), if_neg (by omega)])
    clear hop1 hop
    go_wp2_with fail
    go_ret
    exact .yes HEV.out HB.out
  have n9 := hop1
  clear hop1
  by_cases hop1 : t.op = 10
  case pos =>
    have d1 : (t.op == 1) = false := beq_eq_false_iff_ne.2 (by omega)
    have d2 : (t.op == 2) = false := beq_eq_false_iff_ne.2 (by omega)
    have d3 : (t.op == 3) = false := beq_eq_false_iff_ne.2 (by omega)
    have d4 : (t.op == 4) = false := beq_eq_false_iff_ne.2 (by omega)
    have d5 : (t.op == 5) = false := beq_eq_false_iff_ne.2 (by omega)
    have d7 : (t.op == 7) = false := beq_eq_false_iff_ne.2 (by omega)
    have d9 : (t.op == 9) = false := beq_eq_false_iff_ne.2 (by omega)
    have d10 : (t.op == 10) = true := beq_iff_eq.2 (by omega)
    have d12 : (t.op == 12) = false := beq_eq_false_iff_ne.2 (by omega)
    have b12 : (t.op != 12) = true := bne_iff_ne.2 (by omega)
    by_cases hm : t.mn = 0
    case pos =>
      have m0 : (t.mn == 0) = true := beq_iff_eq.2 hm
      have HEV : Hid (t.emp = true) := Lib.hid (by rw [HE.out, if_neg (by omega), if_neg (by omega), if_pos hop1, decide_eq_true hm]; rfl)
      clear hop1 hop hm
      go_wp2_with fail
      go_ret
      exact .yes HEV.out HB.out
    have m0 : (t.mn == 0) = false := beq_eq_false_iff_ne.2 hm
    have HEV : Hid (t.emp = Tr.empAll t.kids) := Lib.hid (by rw [HE.out, if_neg (by omega), if_neg (by omega), if_pos hop1, decide_eq_false hm]; rfl)
    clear hop1 hop hm n1 n2 n3 n4 n5 n7 n9
    go_upto_region 14 with fail
    clear k0 k1 k2 k3 k4 k5 k6 k7 k8 k9
    go_wp2_with fail
    go_loopg [3] (kn + 1) (fun q i W => ∃ j : Nat, q = kn + 1 - j ∧ j ≤ kn ∧ i = .int .i64 (j : Int) ∧ Hid (Tr.empAll (t.kids.take j) = true) ∧ Hid (Below w0.heap.size w0 W))
    case atStart => exact ⟨0, rfl, Nat.zero_le _, rfl, Lib.hid (by simp [Tr.empAll]), Lib.hid (Below.refl _ _)⟩
    case round =>
      obtain ⟨j, hgk, hj, rfl, HA, HW⟩ := hrel
      have HG := Lib.hid hgk
      have HJ := Lib.hid hj
      have c1 := (HBX.out.below HW.out).ten.c1
      dsimp only at c1
      clear hgk hj
      by_cases hlt : j < kn
      · obtain ⟨b, o, k, x, rfl, hb, hk, hx, hc⟩ := HK.out.at hlt
        have h10 := hc wr (.of_below HW.out (Nat.le_refl _))
        have k0 := h10.c0
        have k1 := h10.c1
        have k2 := h10.c2
        have k3 := h10.c3
        have k4 := h10.c4
        have k5 := h10.c5
        have k6 := h10.c6
        have k7 := h10.c7
        have k8 := h10.c8
        have k9 := h10.c9
        have hi : (j : Int) < (kn : Int) := by omega
        have hcall := IH.out k (List.mem_of_getElem? hk) (hx.on HW.out) (HP.out k (List.mem_of_getElem? hk)) (HOO.out.kid (List.mem_of_getElem? hk))
        have HKK := Lib.hid hk
        have HLT := Lib.hid hlt
        clear h10 hc hx hk hb hlt
        go_wp2_with fail
        refine hcall.mono ?_
        rintro e w5 ⟨v, rfl, hv, hb5⟩
        have HN : Hid (Below w0.heap.size w0 w5) := Lib.hid (HW.out.trans (hb5.mono HW.out.size))
        have k0 := (HBX.out.below HN.out).ten.c0
        have HV := Lib.hid hv
        clear hcall hb5 hv c1 k1 k2 k3 k4 k5 k6 k7 k8 k9
        cases v with
        | false =>
          have hk0 : k.emp = false := by cases h : k.emp with | false => rfl | true => exact absurd (HV.out.2 h) (by simp)
          have hno : ¬ t.emp = true := by rw [HEV.out, Tr.empAll_no HKK.out hk0]; simp
          have HNO := Lib.hid hno
          clear hno hk0
          go_wp2_with fail
          go_ret
          exact .no HNO.out (HB.out.trans (HN.out.mono HB.out.size))
        | true =>
          have hst : Tr.empAll (t.kids.take (j + 1)) = true := by rw [Tr.empAll_take HKK.out, HA.out, HV.out.1 rfl]; rfl
          have HST := Lib.hid hst
          clear hst
          go_wp2_with fail
          go_roundg (kn + 1 - (j + 1))
          case measure => have := HG.out; have := HLT.out; omega
          case rel => exact ⟨j + 1, rfl, by have := HLT.out; omega, by go_num, HST, HN⟩
      · have hi : ¬ (j : Int) < (kn : Int) := by omega
        have hall : t.kids.take j = t.kids := by rw [show j = t.kids.length by have := HK.out.len; have := HJ.out; omega, List.take_length]
        rw [hall] at HA
        have k0 := (HBX.out.below HW.out).ten.c0
        have hyes : t.emp = true := HEV.out.trans HA.out
        have HYES := Lib.hid hyes
        clear hyes hall hlt
        go_wp2_with fail
        go_ret
        exact .yes HYES.out (HB.out.trans (HW.out.mono HB.out.size))
  have n10 := hop1
  clear hop1
  by_cases hop1 : t.op = 12
  case pos =>
    have d1 : (t.op == 1) = false := beq_eq_false_iff_ne.2 (by omega)
    have d2 : (t.op == 2) = false := beq_eq_false_iff_ne.2 (by omega)
    have d3 : (t.op == 3) = false := beq_eq_false_iff_ne.2 (by omega)
    have d4 : (t.op == 4) = false := beq_eq_false_iff_ne.2 (by omega)
    have d5 : (t.op == 5) = false := beq_eq_false_iff_ne.2 (by omega)
    have d7 : (t.op == 7) = false := beq_eq_false_iff_ne.2 (by omega)
    have d9 : (t.op == 9) = false := beq_eq_false_iff_ne.2 (by omega)
    have d10 : (t.op == 10) = false := beq_eq_false_iff_ne.2 (by omega)
    have d12 : (t.op == 12) = true := beq_iff_eq.2 (by omega)
    have b12 : (t.op != 12) = false := bne_eq_false_iff_eq.2 (by omega)
    have HEV : Hid (t.emp = Tr.empAny t.kids) := Lib.hid (by rw [HE.out, if_neg (by omega), if_neg (by omega), if_neg (by omega), if_pos hop1])
    clear hop1 hop n1 n2 n3 n4 n5 n7 n9 n10
    go_upto_region 14 with fail
    clear k0 k1 k2 k3 k4 k5 k6 k7 k8 k9
    go_wp2_with fail
    go_loopg [3] (kn + 1) (fun q i W => ∃ j : Nat, q = kn + 1 - j ∧ j ≤ kn ∧ i = .int .i64 (j : Int) ∧ Hid (Tr.empAny (t.kids.take j) = false) ∧ Hid (Below w0.heap.size w0 W))
    case atStart => exact ⟨0, rfl, Nat.zero_le _, rfl, Lib.hid (by simp [Tr.empAny]), Lib.hid (Below.refl _ _)⟩
    case round =>
      obtain ⟨j, hgk, hj, rfl, HA, HW⟩ := hrel
      have HG := Lib.hid hgk
      have HJ := Lib.hid hj
      have c1 := (HBX.out.below HW.out).ten.c1
      dsimp only at c1
      clear hgk hj
      by_cases hlt : j < kn
      · obtain ⟨b, o, k, x, rfl, hb, hk, hx, hc⟩ := HK.out.at hlt
        have h10 := hc wr (.of_below HW.out (Nat.le_refl _))
        have k0 := h10.c0
        have k1 := h10.c1
        have k2 := h10.c2
        have k3 := h10.c3
        have k4 := h10.c4
        have k5 := h10.c5
        have k6 := h10.c6
        have k7 := h10.c7
        have k8 := h10.c8
        have k9 := h10.c9
        have hi : (j : Int) < (kn : Int) := by omega
        have hcall := IH.out k (List.mem_of_getElem? hk) (hx.on HW.out) (HP.out k (List.mem_of_getElem? hk)) (HOO.out.kid (List.mem_of_getElem? hk))
        have HKK := Lib.hid hk
        have HLT := Lib.hid hlt
        clear h10 hc hx hk hb hlt
        go_wp2_with fail
        refine hcall.mono ?_
        rintro e w5 ⟨v, rfl, hv, hb5⟩
        have HN : Hid (Below w0.heap.size w0 w5) := Lib.hid (HW.out.trans (hb5.mono HW.out.size))
        have k0 := (HBX.out.below HN.out).ten.c0
        have HV := Lib.hid hv
        clear hcall hb5 hv c1 k1 k2 k3 k4 k5 k6 k7 k8 k9
        cases v with
        | true =>
          have hyes : t.emp = true := HEV.out.trans (Tr.empAny_yes HKK.out (HV.out.1 rfl))
          have HYES := Lib.hid hyes
          clear hyes
          go_wp2_with fail
          go_ret
          exact .yes HYES.out (HB.out.trans (HN.out.mono HB.out.size))
        | false =>
          have hst : Tr.empAny (t.kids.take (j + 1)) = false := by rw [Tr.empAny_take HKK.out, HA.out]; cases h : k.emp with | false => rfl | true => exact absurd (HV.out.2 h) (by simp)
          have HST := Lib.hid hst
          clear hst
          go_wp2_with fail
          go_roundg (kn + 1 - (j + 1))
          case measure => have := HG.out; have := HLT.out; omega
          case rel => exact ⟨j + 1, rfl, by have := HLT.out; omega, by go_num, HST, HN⟩
      · have hi : ¬ (j : Int) < (kn : Int) := by omega
        have hall : t.kids.take j = t.kids := by rw [show j = t.kids.length by have := HK.out.len; have := HJ.out; omega, List.take_length]
        rw [hall] at HA
        have k0 := (HBX.out.below HW.out).ten.c0
        have hno : ¬ t.emp = true := by rw [HEV.out, HA.out]; simp
        have HNO := Lib.hid hno
        clear hno hall hlt
        go_wp2_with fail
        go_ret
        exact .no HNO.out (HB.out.trans (HW.out.mono HB.out.size))
  have n12 := hop1
  clear hop1
  have d1 : (t.op == 1) = false := beq_eq_false_iff_ne.2 (by omega)
  have d2 : (t.op == 2) = false := beq_eq_false_iff_ne.2 (by omega)
  have d3 : (t.op == 3) = false := beq_eq_false_iff_ne.2 (by omega)
  have d4 : (t.op == 4) = false := beq_eq_false_iff_ne.2 (by omega)
  have d5 : (t.op == 5) = false := beq_eq_false_iff_ne.2 (by omega)
  have d7 : (t.op == 7) = false := beq_eq_false_iff_ne.2 (by omega)
  have d9 : (t.op == 9) = false := beq_eq_false_iff_ne.2 (by omega)
  have d10 : (t.op == 10) = false := beq_eq_false_iff_ne.2 (by omega)
  have d12 : (t.op == 12) = false := beq_eq_false_iff_ne.2 (by omega)
  have b12 : (t.op != 12) = true := bne_iff_ne.2 (by omega)
  have HEV : Hid (t.emp = Tr.empAll t.kids) := Lib.hid (by rw [HE.out, if_neg (by omega), if_pos (by omega)])
  clear hop n1 n2 n3 n4 n5 n7 n9 n10 n12
  go_upto_region 14 with fail
  clear k0 k1 k2 k3 k4 k5 k6 k7 k8 k9
  go_wp2_with fail
  go_loopg [3] (kn + 1) (fun q i W => ∃ j : Nat, q = kn + 1 - j ∧ j ≤ kn ∧ i = .int .i64 (j : Int) ∧ Hid (Tr.empAll (t.kids.take j) = true) ∧ Hid (Below w0.heap.size w0 W))
  case atStart => exact ⟨0, rfl, Nat.zero_le _, rfl, Lib.hid (by simp [Tr.empAll]), Lib.hid (Below.refl _ _)⟩
  case round =>
    obtain ⟨j, hgk, hj, rfl, HA, HW⟩ := hrel
    have HG := Lib.hid hgk
    have HJ := Lib.hid hj
    have c1 := (HBX.out.below HW.out).ten.c1
    dsimp only at c1
    clear hgk hj
    by_cases hlt : j < kn
    · obtain ⟨b, o, k, x, rfl, hb, hk, hx, hc⟩ := HK.out.at hlt
      have h10 := hc wr (.of_below HW.out (Nat.le_refl _))
      have k0 := h10.c0
      have k1 := h10.c1
      have k2 := h10.c2
      have k3 := h10.c3
      have k4 := h10.c4
      have k5 := h10.c5
      have k6 := h10.c6
      have k7 := h10.c7
      have k8 := h10.c8
      have k9 := h10.c9
      have hi : (j : Int) < (kn : Int) := by omega
      have hcall := IH.out k (List.mem_of_getElem? hk) (hx.on HW.out) (HP.out k (List.mem_of_getElem? hk)) (HOO.out.kid (List.mem_of_getElem? hk))
      have HKK := Lib.hid hk
      have HLT := Lib.hid hlt
      clear h10 hc hx hk hb hlt
      go_wp2_with fail
      refine hcall.mono ?_
      rintro e w5 ⟨v, rfl, hv, hb5⟩
      have HN : Hid (Below w0.heap.size w0 w5) := Lib.hid (HW.out.trans (hb5.mono HW.out.size))
      have k0 := (HBX.out.below HN.out).ten.c0
      have HV := Lib.hid hv
      clear hcall hb5 hv c1 k1 k2 k3 k4 k5 k6 k7 k8 k9
      cases v with
      | false =>
        have hk0 : k.emp = false := by cases h : k.emp with | false => rfl | true => exact absurd (HV.out.2 h) (by simp)
        have hno : ¬ t.emp = true := by rw [HEV.out, Tr.empAll_no HKK.out hk0]; simp
        have HNO := Lib.hid hno
        clear hno hk0
        go_wp2_with fail
        go_ret
        exact .no HNO.out (HB.out.trans (HN.out.mono HB.out.size))
      | true =>
        have hst : Tr.empAll (t.kids.take (j + 1)) = true := by rw [Tr.empAll_take HKK.out, HA.out, HV.out.1 rfl]; rfl
        have HST := Lib.hid hst
        clear hst
        go_wp2_with fail
        go_roundg (kn + 1 - (j + 1))
        case measure => have := HG.out; have := HLT.out; omega
        case rel => exact ⟨j + 1, rfl, by have := HLT.out; omega, by go_num, HST, HN⟩
    · have hi : ¬ (j : Int) < (kn : Int) := by omega
      have hall : t.kids.take j = t.kids := by rw [show j = t.kids.length by have := HK.out.len; have := HJ.out; omega, List.take_length]
      rw [hall] at HA
      have k0 := (HBX.out.below HW.out).ten.c0
      have hyes : t.emp = true := HEV.out.trans HA.out
      have HYES := Lib.hid hyes
      clear hyes hall hlt
      go_wp2_with fail
      go_ret
      exact .yes HYES.out (HB.out.trans (HW.out.mono HB.out.size))
set_option maxRecDepth 20000 in
set_option maxHeartbeats 4000000 in
theorem rEmpty_any {w : World} {t : Tr} {kA : Option Addr} {kn kc : Nat} {sA : Option Addr} {sn sc : Nat} (hT : TIn w t ⟨kA, kn, kc, sA, sn, sc⟩) (hp : t.parts ≤ 20000) : Calls Try.prog 28 #[.agg #[.int .i64 t.op, .slice kA kn kc, .int .i32 t.rune, .slice sA sn sc, .int .i64 t.at_, .int .i64 t.cap, .string t.name, .int .i64 t.mn, .int .i64 t.mx, .bool t.lzy]] w (YesB (RightP t ∧ t.emp = true) w) := by
  have hb : Below w.heap.size w (w.alloc (.cells #[.int .i64 t.op, .slice kA kn kc, .int .i32 t.rune, .slice sA sn sc, .int .i64 t.at_, .int .i64 t.cap, .string t.name, .int .i64 t.mn, .int .i64 t.mx, .bool t.lzy] 27)) := (Below.refl _ _).alloc (Nat.le_refl _) _
  have hB := TBox.newV w t kA kn kc sA sn sc
  have HT := Lib.hid (hT.on hb)
  have HB := Lib.hid hb
  have HBX := Lib.hid hB
  clear hb hB hT
  have h10 := HBX.out.ten
  have k0 := h10.c0
  have k1 := h10.c1
  have k2 := h10.c2
  have k3 := h10.c3
  have k4 := h10.c4
  have k5 := h10.c5
  have k6 := h10.c6
  have k7 := h10.c7
  have k8 := h10.c8
  have k9 := h10.c9
  dsimp only at k1 k3
  clear h10
  go_enter Try.func28, Try.ntmps28
  go_wp2_with fail
  generalize w.alloc (.cells #[.int .i64 t.op, .slice kA kn kc, .int .i32 t.rune, .slice sA sn sc, .int .i64 t.at_, .int .i64 t.cap, .string t.name, .int .i64 t.mn, .int .i64 t.mx, .bool t.lzy] 27) = w0 at HB HBX HT k0 k1 k2 k3 k4 k5 k6 k7 k8 k9 ⊢
  refine (rright_any HT.out hp).mono ?_
  rintro e w1 ⟨v, rfl, hv, hb1⟩
  have HV := Lib.hid hv
  clear hv
  replace HT := Lib.hid (HT.out.on hb1)
  replace HBX := Lib.hid (HBX.out.below hb1)
  replace HB := Lib.hid (HB.out.trans (hb1.mono HB.out.size))
  clear hb1
  clear k0 k1 k2 k3 k4 k5 k6 k7 k8 k9
  have h10 := HBX.out.ten
  have k0 := h10.c0
  have k1 := h10.c1
  have k2 := h10.c2
  have k3 := h10.c3
  have k4 := h10.c4
  have k5 := h10.c5
  have k6 := h10.c6
  have k7 := h10.c7
  have k8 := h10.c8
  have k9 := h10.c9
  dsimp only at k1 k3
  clear h10
  cases v with
  | false =>
    have hno : ¬ (RightP t ∧ t.emp = true) := fun h => by have := HV.out.2 h.1; cases this
    have HNO := Lib.hid hno
    clear hno
    go_wp2_with fail
    go_ret
    exact .no HNO.out HB.out
  | true =>
  have HR := Lib.hid (HV.out.1 rfl)
  clear HV
  go_wp2_with fail
  refine (rempty_any t HT.out hp HR.out.ops).mono ?_
  rintro e w2 ⟨u, rfl, hu, hb2⟩
  have HU := Lib.hid hu
  clear hu
  replace HT := Lib.hid (HT.out.on hb2)
  replace HBX := Lib.hid (HBX.out.below hb2)
  replace HB := Lib.hid (HB.out.trans (hb2.mono HB.out.size))
  clear hb2
  clear k0 k1 k2 k3 k4 k5 k6 k7 k8 k9
  go_wp2_with fail
  go_ret
  exact ⟨u, rfl, HU.out.trans ⟨fun h => ⟨HR.out, h⟩, fun h => h.2⟩, HB.out⟩
end Go.Proofs.Ytbhcgjahlfpjoaa
