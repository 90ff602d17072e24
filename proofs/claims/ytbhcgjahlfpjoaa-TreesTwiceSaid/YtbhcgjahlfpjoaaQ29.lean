/- May a tree fit nothing: trees.empty, trees.Empty: the walks. -/
import Derived.Test.YtbhcgjahlfpjoaaQ28
namespace Go.Proofs.Ytbhcgjahlfpjoaa
open Go.RowKit

theorem Tr.empAll_any : ∀ l : List Tr, Tr.empAll l = !(l.any fun k => !k.emp)
  | [] => rfl
  | k :: l => by rw [Tr.empAll, List.any_cons, Tr.empAll_any l]; cases k.emp <;> simp
theorem Tr.empAny_any : ∀ l : List Tr, Tr.empAny l = l.any Tr.emp
  | [] => rfl
  | k :: l => by rw [Tr.empAny, List.any_cons, Tr.empAny_any l]
theorem YesB.val {b : Bool} {w w' : World} {e : Ending} (h : YesB (b = true) w e w') : e = .returned (.bool b) ∧ Below w.heap.size w w' := by
  obtain ⟨c, rfl, hc, hb⟩ := h
  refine ⟨?_, hb⟩
  cases b <;> cases c <;> simp_all
theorem YesB.ofVal {b : Bool} {w w' : World} {e : Ending} (h : e = .returned (.bool b)) (hb : Below w.heap.size w w') : YesB (b = true) w e w' := ⟨b, h, Iff.rfl, hb⟩
/-- May each part be? -/
def OksP (t : Tr) : Prop := ∀ q ∈ t.all, OkP q
theorem RightP.oks {t : Tr} (h : RightP t) : OksP t := h.2.2.1
theorem OksP.self {t : Tr} (h : OksP t) : OkP t := h t (by rw [Tr.all_eq]; exact List.mem_cons_self ..)
theorem OksP.kid {t k : Tr} (h : OksP t) (hk : k ∈ t.kids) : OksP k := fun q hq => by
  obtain ⟨i, hi⟩ := List.mem_iff_getElem?.1 hk
  exact h q (by rw [Tr.all_eq]; exact List.mem_cons_of_mem _ (allL_mem hi hq))
set_option maxRecDepth 20000 in
set_option maxHeartbeats 1000000 in
theorem empty1_any {w : World} {k : Tr} {x : TA} (hcall : ∀ V : World, Below w.heap.size w V → Calls Try.prog 63 #[.agg #[.int .i64 k.op, .slice x.kA x.kn x.kc, .int .i32 k.rune, .slice x.sA x.sn x.sc, .int .i64 k.at_, .int .i64 k.cap, .string k.name, .int .i64 k.mn, .int .i64 k.mx, .bool k.lzy]] V fun e w' => e = .returned (.bool k.emp) ∧ Below V.heap.size V w') :
    Calls Try.prog 90 #[.agg #[.int .i64 k.op, .slice x.kA x.kn x.kc, .int .i32 k.rune, .slice x.sA x.sn x.sc, .int .i64 k.at_, .int .i64 k.cap, .string k.name, .int .i64 k.mn, .int .i64 k.mx, .bool k.lzy]] w fun e w' => e = .returned (.bool (!k.emp)) ∧ Below w.heap.size w w' := by
  have hb : Below w.heap.size w (w.alloc (.cells #[.int .i64 k.op, .slice x.kA x.kn x.kc, .int .i32 k.rune, .slice x.sA x.sn x.sc, .int .i64 k.at_, .int .i64 k.cap, .string k.name, .int .i64 k.mn, .int .i64 k.mx, .bool k.lzy] 27)) := (Below.refl _ _).alloc (Nat.le_refl _) _
  have h10 := (TBox.newA w k x).ten
  have k0 := h10.c0
  have k1 := h10.c1
  have k2 := h10.c2
  have k3 := h10.c3
  have k4 := h10.c4
  have k5 := h10.c5
  have k6 := h10.c6
  have k7 := h10.c7
  have k8 := h10.c8
  have k9 := h10.c9
  have hc := hcall _ hb
  have HB := Lib.hid hb
  clear hcall hb h10
  go_enter Try.func90, Try.ntmps90
  go_wp2_with fail
  refine hc.mono ?_
  rintro e w2 ⟨rfl, hb2⟩
  have HB2 := Lib.hid (HB.out.trans (hb2.mono HB.out.size))
  clear hc hb2 HB k0 k1 k2 k3 k4 k5 k6 k7 k8 k9
  go_wp2_with fail
  go_ret
  exact ⟨rfl, HB2.out⟩

set_option maxRecDepth 20000 in
set_option maxHeartbeats 8000000 in
theorem pempty_any : ∀ (t : Tr) {w : World} {kA : Option Addr} {kn kc : Nat} {sA : Option Addr} {sn sc : Nat}, TIn w t ⟨kA, kn, kc, sA, sn, sc⟩ → OksP t → Calls Try.prog 63 #[.agg #[.int .i64 t.op, .slice kA kn kc, .int .i32 t.rune, .slice sA sn sc, .int .i64 t.at_, .int .i64 t.cap, .string t.name, .int .i64 t.mn, .int .i64 t.mx, .bool t.lzy]] w (fun e w' => e = .returned (.bool t.emp) ∧ Below w.heap.size w w') := by
  intro t
  induction t using Tr.ind with
  | h t ih =>
  intro w kA kn kc sA sn sc hT hO
  have hb : Below w.heap.size w (w.alloc (.cells #[.int .i64 t.op, .slice kA kn kc, .int .i32 t.rune, .slice sA sn sc, .int .i64 t.at_, .int .i64 t.cap, .string t.name, .int .i64 t.mn, .int .i64 t.mx, .bool t.lzy] 27)) := (Below.refl _ _).alloc (Nat.le_refl _) _
  have hB := TBox.newV w t kA kn kc sA sn sc
  obtain ⟨ka, hK⟩ := (hT.on hb).kidsV
  have h10 := hB.ten
  have k0 := h10.c0
  have k1 := h10.c1
  have k2 := h10.c2
  have k3 := h10.c3
  have k4 := h10.c4
  have k5 := h10.c5
  have k6 := h10.c6
  have k7 := h10.c7
  have k8 := h10.c8
  have k9 := h10.c9
  dsimp only at k1 k3
  have hop := hO.self.op
  have hk1 := hO.self.kids1
  have hkl := hK.len
  have HOO := Lib.hid hO
  have HK := Lib.hid hK
  have HB := Lib.hid hb
  have HBX := Lib.hid hB
  have IH := Lib.hid ih
  have HE := Lib.hid t.emp_eq
  clear hb hB ih hT h10 hK hO
  go_enter Try.func63, Try.ntmps63
  go_upto_region 1 with fail
  generalize w.alloc (.cells #[.int .i64 t.op, .slice kA kn kc, .int .i32 t.rune, .slice sA sn sc, .int .i64 t.at_, .int .i64 t.cap, .string t.name, .int .i64 t.mn, .int .i64 t.mx, .bool t.lzy] 27) = w0 at HB HBX HK k0 k1 k2 k3 k4 k5 k6 k7 k8 k9 ⊢
  by_cases hop1 : t.op = 1
  case pos =>
    have d1 : (t.op == 1) = true := beq_iff_eq.2 (by omega)
    have d3 : (t.op == 3) = false := beq_eq_false_iff_ne.2 (by omega)
    have d4 : (t.op == 4) = false := beq_eq_false_iff_ne.2 (by omega)
    have d6 : (t.op == 6) = false := beq_eq_false_iff_ne.2 (by omega)
    have d8 : (t.op == 8) = false := beq_eq_false_iff_ne.2 (by omega)
    have d10 : (t.op == 10) = false := beq_eq_false_iff_ne.2 (by omega)
    have d11 : (t.op == 11) = false := beq_eq_false_iff_ne.2 (by omega)
    have d12 : (t.op == 12) = false := beq_eq_false_iff_ne.2 (by omega)
    have HEV : Hid (t.emp = false) := Lib.hid (by rw [HE.out, if_pos (by omega)])
    clear hop1 hop hk1 hkl
    go_wp2_with fail
    go_ret
    exact ⟨by rw [HEV.out]; rfl, HB.out⟩
  have n1 := hop1
  clear hop1
  by_cases hop1 : t.op = 3
  case pos =>
    have d1 : (t.op == 1) = false := beq_eq_false_iff_ne.2 (by omega)
    have d3 : (t.op == 3) = true := beq_iff_eq.2 (by omega)
    have d4 : (t.op == 4) = false := beq_eq_false_iff_ne.2 (by omega)
    have d6 : (t.op == 6) = false := beq_eq_false_iff_ne.2 (by omega)
    have d8 : (t.op == 8) = false := beq_eq_false_iff_ne.2 (by omega)
    have d10 : (t.op == 10) = false := beq_eq_false_iff_ne.2 (by omega)
    have d11 : (t.op == 11) = false := beq_eq_false_iff_ne.2 (by omega)
    have d12 : (t.op == 12) = false := beq_eq_false_iff_ne.2 (by omega)
    have HEV : Hid (t.emp = false) := Lib.hid (by rw [HE.out, if_pos (by omega)])
    clear hop1 hop hk1 hkl
    go_wp2_with fail
    go_ret
    exact ⟨by rw [HEV.out]; rfl, HB.out⟩
  have n3 := hop1
  clear hop1
  by_cases hop1 : t.op = 4
  case pos =>
    have d1 : (t.op == 1) = false := beq_eq_false_iff_ne.2 (by omega)
    have d3 : (t.op == 3) = false := beq_eq_false_iff_ne.2 (by omega)
    have d4 : (t.op == 4) = true := beq_iff_eq.2 (by omega)
    have d6 : (t.op == 6) = false := beq_eq_false_iff_ne.2 (by omega)
    have d8 : (t.op == 8) = false := beq_eq_false_iff_ne.2 (by omega)
    have d10 : (t.op == 10) = false := beq_eq_false_iff_ne.2 (by omega)
    have d11 : (t.op == 11) = false := beq_eq_false_iff_ne.2 (by omega)
    have d12 : (t.op == 12) = false := beq_eq_false_iff_ne.2 (by omega)
    have HEV : Hid (t.emp = false) := Lib.hid (by rw [HE.out, if_pos (by omega)])
    clear hop1 hop hk1 hkl
    go_wp2_with fail
    go_ret
    exact ⟨by rw [HEV.out]; rfl, HB.out⟩
  have n4 := hop1
  clear hop1
  by_cases hop1 : t.op = 6
  case pos =>
    have d1 : (t.op == 1) = false := beq_eq_false_iff_ne.2 (by omega)
    have d3 : (t.op == 3) = false := beq_eq_false_iff_ne.2 (by omega)
    have d4 : (t.op == 4) = false := beq_eq_false_iff_ne.2 (by omega)
    have d6 : (t.op == 6) = true := beq_iff_eq.2 (by omega)
    have d8 : (t.op == 8) = false := beq_eq_false_iff_ne.2 (by omega)
    have d10 : (t.op == 10) = false := beq_eq_false_iff_ne.2 (by omega)
    have d11 : (t.op == 11) = false := beq_eq_false_iff_ne.2 (by omega)
    have d12 : (t.op == 12) = false := beq_eq_false_iff_ne.2 (by omega)
    have hlen := hk1 (by omega) (by omega)
    obtain ⟨b, o, k, x, rfl, hb, hk, hx, hc⟩ := HK.out.at (i := 0) (by omega)
    have h10 := hc w0 (Same.refl _ _ _)
    have j0 := h10.c0
    have j1 := h10.c1
    have j2 := h10.c2
    have j3 := h10.c3
    have j4 := h10.c4
    have j5 := h10.c5
    have j6 := h10.c6
    have j7 := h10.c7
    have j8 := h10.c8
    have j9 := h10.c9
    simp only [Nat.zero_mul, Nat.add_zero] at j0 j1 j2 j3 j4 j5 j6 j7 j8 j9
    have hmem := List.mem_of_getElem? hk
    have hcall := IH.out k hmem hx (HOO.out.kid hmem)
    have hkids : t.kids = [k] := by
      match hl : t.kids, hlen, hk with
      | [y], _, h => simp at h; rw [h]
    have hall : Tr.empAll t.kids = k.emp := by rw [hkids, Tr.empAll, Tr.empAll, Bool.and_true]
    have hkn : (0 : Int) < (kn : Int) := by omega
    have hkn2 : 0 < kn := by omega
    have HEV : Hid (t.emp = k.emp) := Lib.hid (by rw [HE.out, if_neg (by omega), if_pos (by omega), hall])
    clear hop1 hop hk1 hkl hlen hb hk hx hc h10 hmem hkids hall
    go_wp2_with fail
    refine hcall.mono ?_
    rintro e w5 ⟨rfl, hb5⟩
    have HN : Hid (Below w.heap.size w w5) := Lib.hid (HB.out.trans (hb5.mono HB.out.size))
    clear hcall hb5 k0 k1 k2 k3 k4 k5 k6 k7 k8 k9 j0 j1 j2 j3 j4 j5 j6 j7 j8 j9
    go_wp2_with fail
    go_ret
    exact ⟨by rw [HEV.out]; rfl, HN.out⟩
  have n6 := hop1
  clear hop1
  by_cases hop1 : t.op = 8
  case pos =>
    have d1 : (t.op == 1) = false := beq_eq_false_iff_ne.2 (by omega)
    have d3 : (t.op == 3) = false := beq_eq_false_iff_ne.2 (by omega)
    have d4 : (t.op == 4) = false := beq_eq_false_iff_ne.2 (by omega)
    have d6 : (t.op == 6) = false := beq_eq_false_iff_ne.2 (by omega)
    have d8 : (t.op == 8) = true := beq_iff_eq.2 (by omega)
    have d10 : (t.op == 10) = false := beq_eq_false_iff_ne.2 (by omega)
    have d11 : (t.op == 11) = false := beq_eq_false_iff_ne.2 (by omega)
    have d12 : (t.op == 12) = false := beq_eq_false_iff_ne.2 (by omega)
    have hlen := hk1 (by omega) (by omega)
    obtain ⟨b, o, k, x, rfl, hb, hk, hx, hc⟩ := HK.out.at (i := 0) (by omega)
    have h10 := hc w0 (Same.refl _ _ _)
    have j0 := h10.c0
    have j1 := h10.c1
    have j2 := h10.c2
    have j3 := h10.c3
    have j4 := h10.c4
    have j5 := h10.c5
    have j6 := h10.c6
    have j7 := h10.c7
    have j8 := h10.c8
    have j9 := h10.c9
    simp only [Nat.zero_mul, Nat.add_zero] at j0 j1 j2 j3 j4 j5 j6 j7 j8 j9
    have hmem := List.mem_of_getElem? hk
    have hcall := IH.out k hmem hx (HOO.out.kid hmem)
    have hkids : t.kids = [k] := by
      match hl : t.kids, hlen, hk with
      | [y], _, h => simp at h; rw [h]
    have hall : Tr.empAll t.kids = k.emp := by rw [hkids, Tr.empAll, Tr.empAll, Bool.and_true]
    have hkn : (0 : Int) < (kn : Int) := by omega
    have hkn2 : 0 < kn := by omega
    have HEV : Hid (t.emp = k.emp) := Lib.hid (by rw [HE.out, if_neg (by omega), if_pos (by omega), hall])
    clear hop1 hop hk1 hkl hlen hb hk hx hc h10 hmem hkids hall
    go_wp2_with fail
    refine hcall.mono ?_
    rintro e w5 ⟨rfl, hb5⟩
    have HN : Hid (Below w.heap.size w w5) := Lib.hid (HB.out.trans (hb5.mono HB.out.size))
    clear hcall hb5 k0 k1 k2 k3 k4 k5 k6 k7 k8 k9 j0 j1 j2 j3 j4 j5 j6 j7 j8 j9
    go_wp2_with fail
    go_ret
    exact ⟨by rw [HEV.out]; rfl, HN.out⟩
  have n8 := hop1
  clear hop1
  by_cases hop1 : t.op = 10
  case pos =>
    have d1 : (t.op == 1) = false := beq_eq_false_iff_ne.2 (by omega)
    have d3 : (t.op == 3) = false := beq_eq_false_iff_ne.2 (by omega)
    have d4 : (t.op == 4) = false := beq_eq_false_iff_ne.2 (by omega)
    have d6 : (t.op == 6) = false := beq_eq_false_iff_ne.2 (by omega)
    have d8 : (t.op == 8) = false := beq_eq_false_iff_ne.2 (by omega)
    have d10 : (t.op == 10) = true := beq_iff_eq.2 (by omega)
    have d11 : (t.op == 11) = false := beq_eq_false_iff_ne.2 (by omega)
    have d12 : (t.op == 12) = false := beq_eq_false_iff_ne.2 (by omega)
    by_cases hm : t.mn = 0
    case pos =>
      have m0 : (t.mn == 0) = true := beq_iff_eq.2 hm
      have HEV : Hid (t.emp = true) := Lib.hid (by rw [HE.out, if_neg (by omega), if_neg (by omega), if_pos hop1, decide_eq_true hm]; rfl)
      clear hop1 hop hk1 hkl hm
      go_wp2_with fail
      go_ret
      exact ⟨by rw [HEV.out]; rfl, HB.out⟩
    have m0 : (t.mn == 0) = false := beq_eq_false_iff_ne.2 hm
    have hlen := hk1 (by omega) (by omega)
    obtain ⟨b, o, k, x, rfl, hb, hk, hx, hc⟩ := HK.out.at (i := 0) (by omega)
    have h10 := hc w0 (Same.refl _ _ _)
    have j0 := h10.c0
    have j1 := h10.c1
    have j2 := h10.c2
    have j3 := h10.c3
    have j4 := h10.c4
    have j5 := h10.c5
    have j6 := h10.c6
    have j7 := h10.c7
    have j8 := h10.c8
    have j9 := h10.c9
    simp only [Nat.zero_mul, Nat.add_zero] at j0 j1 j2 j3 j4 j5 j6 j7 j8 j9
    have hmem := List.mem_of_getElem? hk
    have hcall := IH.out k hmem hx (HOO.out.kid hmem)
    have hkids : t.kids = [k] := by
      match hl : t.kids, hlen, hk with
      | [y], _, h => simp at h; rw [h]
    have hall : Tr.empAll t.kids = k.emp := by rw [hkids, Tr.empAll, Tr.empAll, Bool.and_true]
    have hkn : (0 : Int) < (kn : Int) := by omega
    have hkn2 : 0 < kn := by omega
    have HEV : Hid (t.emp = k.emp) := Lib.hid (by rw [HE.out, if_neg (by omega), if_neg (by omega), if_pos hop1, decide_eq_false hm, hall]; rfl)
    clear hop1 hop hk1 hkl hm hlen hb hk hx hc h10 hmem hkids hall
    go_wp2_with fail
    refine hcall.mono ?_
    rintro e w5 ⟨rfl, hb5⟩
    have HN : Hid (Below w.heap.size w w5) := Lib.hid (HB.out.trans (hb5.mono HB.out.size))
    clear hcall hb5 k0 k1 k2 k3 k4 k5 k6 k7 k8 k9 j0 j1 j2 j3 j4 j5 j6 j7 j8 j9
    go_wp2_with fail
    go_ret
    exact ⟨by rw [HEV.out]; rfl, HN.out⟩
  have n10 := hop1
  clear hop1
  by_cases hop1 : t.op = 11
  case pos =>
    have d1 : (t.op == 1) = false := beq_eq_false_iff_ne.2 (by omega)
    have d3 : (t.op == 3) = false := beq_eq_false_iff_ne.2 (by omega)
    have d4 : (t.op == 4) = false := beq_eq_false_iff_ne.2 (by omega)
    have d6 : (t.op == 6) = false := beq_eq_false_iff_ne.2 (by omega)
    have d8 : (t.op == 8) = false := beq_eq_false_iff_ne.2 (by omega)
    have d10 : (t.op == 10) = false := beq_eq_false_iff_ne.2 (by omega)
    have d11 : (t.op == 11) = true := beq_iff_eq.2 (by omega)
    have d12 : (t.op == 12) = false := beq_eq_false_iff_ne.2 (by omega)
    have eg := enters_of (P := Try.prog) Try.func90 (by kernel_rfl) rfl
    have hcon := containsT_any HK.out (fun k => !k.emp) 90 #[] eg (fun W k x hk hx hW => empty1_any (fun V hV => IH.out k hk ((hx.on hW).on (hV)) (HOO.out.kid hk)))
    have HEV : Hid (t.emp = !(t.kids.any fun k => !k.emp)) := Lib.hid (by rw [HE.out, if_neg (by omega), if_pos (by omega), Tr.empAll_any])
    clear hop1 hop hk1 hkl
    generalize (t.kids.any fun k => !k.emp) = bb at hcon HEV
    go_wp2_with fail
    refine hcon.mono ?_
    rintro e w5 ⟨rfl, hb5⟩
    have HN : Hid (Below w.heap.size w w5) := Lib.hid (HB.out.trans (hb5.mono HB.out.size))
    clear hcon hb5 k0 k1 k2 k3 k4 k5 k6 k7 k8 k9
    go_wp2_with fail
    go_ret
    exact ⟨by rw [HEV.out]; rfl, HN.out⟩
  have n11 := hop1
  clear hop1
  by_cases hop1 : t.op = 12
  case pos =>
    have d1 : (t.op == 1) = false := beq_eq_false_iff_ne.2 (by omega)
    have d3 : (t.op == 3) = false := beq_eq_false_iff_ne.2 (by omega)
    have d4 : (t.op == 4) = false := beq_eq_false_iff_ne.2 (by omega)
    have d6 : (t.op == 6) = false := beq_eq_false_iff_ne.2 (by omega)
    have d8 : (t.op == 8) = false := beq_eq_false_iff_ne.2 (by omega)
    have d10 : (t.op == 10) = false := beq_eq_false_iff_ne.2 (by omega)
    have d11 : (t.op == 11) = false := beq_eq_false_iff_ne.2 (by omega)
    have d12 : (t.op == 12) = true := beq_iff_eq.2 (by omega)
    have eg := enters_of (P := Try.prog) Try.func63 (by kernel_rfl) rfl
    have hcon := containsT_any HK.out Tr.emp 63 #[] eg (fun W k x hk hx hW => IH.out k hk (hx.on hW) (HOO.out.kid hk))
    have HEV : Hid (t.emp = t.kids.any Tr.emp) := Lib.hid (by rw [HE.out, if_neg (by omega), if_neg (by omega), if_neg (by omega), if_pos hop1, Tr.empAny_any])
    clear hop1 hop hk1 hkl
    generalize t.kids.any Tr.emp = bb at hcon HEV
    go_wp2_with fail
    refine hcon.mono ?_
    rintro e w5 ⟨rfl, hb5⟩
    have HN : Hid (Below w.heap.size w w5) := Lib.hid (HB.out.trans (hb5.mono HB.out.size))
    clear hcon hb5 k0 k1 k2 k3 k4 k5 k6 k7 k8 k9
    go_wp2_with fail
    go_ret
    exact ⟨by rw [HEV.out]; rfl, HN.out⟩
  have n12 := hop1
  clear hop1
  have d1 : (t.op == 1) = false := beq_eq_false_iff_ne.2 (by omega)
  have d3 : (t.op == 3) = false := beq_eq_false_iff_ne.2 (by omega)
  have d4 : (t.op == 4) = false := beq_eq_false_iff_ne.2 (by omega)
  have d6 : (t.op == 6) = false := beq_eq_false_iff_ne.2 (by omega)
  have d8 : (t.op == 8) = false := beq_eq_false_iff_ne.2 (by omega)
  have d10 : (t.op == 10) = false := beq_eq_false_iff_ne.2 (by omega)
  have d11 : (t.op == 11) = false := beq_eq_false_iff_ne.2 (by omega)
  have d12 : (t.op == 12) = false := beq_eq_false_iff_ne.2 (by omega)
  have HEV : Hid (t.emp = true) := Lib.hid (by rw [HE.out, if_neg (by omega), if_neg (by omega), if_neg (by omega), if_neg (by omega)])
  clear hop hk1 hkl
  go_wp2_with fail
  go_ret
  exact ⟨by rw [HEV.out]; rfl, HB.out⟩
set_option maxRecDepth 20000 in
set_option maxHeartbeats 4000000 in
theorem pEmpty_any {w : World} {t : Tr} {kA : Option Addr} {kn kc : Nat} {sA : Option Addr} {sn sc : Nat} (hT : TIn w t ⟨kA, kn, kc, sA, sn, sc⟩) (hp : t.parts ≤ 20000) : Calls Try.prog 27 #[.agg #[.int .i64 t.op, .slice kA kn kc, .int .i32 t.rune, .slice sA sn sc, .int .i64 t.at_, .int .i64 t.cap, .string t.name, .int .i64 t.mn, .int .i64 t.mx, .bool t.lzy]] w (YesB (RightP t ∧ t.emp = true) w) := by
  have hb : Below w.heap.size w (w.alloc (.cells #[.int .i64 t.op, .slice kA kn kc, .int .i32 t.rune, .slice sA sn sc, .int .i64 t.at_, .int .i64 t.cap, .string t.name, .int .i64 t.mn, .int .i64 t.mx, .bool t.lzy] 27)) := (Below.refl _ _).alloc (Nat.le_refl _) _
  have hB := TBox.newV w t kA kn kc sA sn sc
  have HT := Lib.hid (hT.on hb)
  have HB := Lib.hid hb
  have HBX := Lib.hid hB
  clear hb hB hT
  have h10 := HBX.out.ten
  have k0 := h10.c0
  have k1 := h10.c1
  have k2 := h10.c2
  have k3 := h10.c3
  have k4 := h10.c4
  have k5 := h10.c5
  have k6 := h10.c6
  have k7 := h10.c7
  have k8 := h10.c8
  have k9 := h10.c9
  dsimp only at k1 k3
  clear h10
  go_enter Try.func27, Try.ntmps27
  go_wp2_with fail
  generalize w.alloc (.cells #[.int .i64 t.op, .slice kA kn kc, .int .i32 t.rune, .slice sA sn sc, .int .i64 t.at_, .int .i64 t.cap, .string t.name, .int .i64 t.mn, .int .i64 t.mx, .bool t.lzy] 27) = w0 at HB HBX HT k0 k1 k2 k3 k4 k5 k6 k7 k8 k9 ⊢
  refine (tright_any HT.out hp).mono ?_
  rintro e w1 ⟨v, rfl, hv, hb1⟩
  have HV := Lib.hid hv
  clear hv
  replace HT := Lib.hid (HT.out.on hb1)
  replace HBX := Lib.hid (HBX.out.below hb1)
  replace HB := Lib.hid (HB.out.trans (hb1.mono HB.out.size))
  clear hb1
  clear k0 k1 k2 k3 k4 k5 k6 k7 k8 k9
  have h10 := HBX.out.ten
  have k0 := h10.c0
  have k1 := h10.c1
  have k2 := h10.c2
  have k3 := h10.c3
  have k4 := h10.c4
  have k5 := h10.c5
  have k6 := h10.c6
  have k7 := h10.c7
  have k8 := h10.c8
  have k9 := h10.c9
  dsimp only at k1 k3
  clear h10
  cases v with
  | false =>
    have hno : ¬ (RightP t ∧ t.emp = true) := fun h => by have := HV.out.2 h.1; cases this
    have HNO := Lib.hid hno
    clear hno
    go_wp2_with fail
    go_ret
    exact .no HNO.out HB.out
  | true =>
  have HR := Lib.hid (HV.out.1 rfl)
  clear HV
  go_wp2_with fail
  have hc : Calls Try.prog 63 _ _ (YesB (t.emp = true) w1) := (pempty_any t HT.out HR.out.oks).mono fun _ _ h => YesB.ofVal h.1 h.2
  refine hc.mono ?_
  rintro e w2 ⟨u, rfl, hu, hb2⟩
  have HU := Lib.hid hu
  clear hu
  replace HT := Lib.hid (HT.out.on hb2)
  replace HBX := Lib.hid (HBX.out.below hb2)
  replace HB := Lib.hid (HB.out.trans (hb2.mono HB.out.size))
  clear hb2
  clear k0 k1 k2 k3 k4 k5 k6 k7 k8 k9
  go_wp2_with fail
  go_ret
  exact ⟨u, rfl, HU.out.trans ⟨fun h => ⟨HR.out, h⟩, fun h => h.2⟩, HB.out⟩
end Go.Proofs.Ytbhcgjahlfpjoaa
