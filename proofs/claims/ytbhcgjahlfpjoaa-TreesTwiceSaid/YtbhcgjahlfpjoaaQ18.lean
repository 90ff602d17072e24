/- Is it a tree: the reference's Right: the walk. -/
import Derived.Test.YtbhcgjahlfpjoaaQ17
import Derived.Test.YtbhcgjahlfpjoaaQ11
namespace Go.Proofs.Ytbhcgjahlfpjoaa
open Go.RowKit

theorem tcells_at : ∀ {l : List (Tr × TA)} {i : Nat} {y : Tr × TA}, l[i]? = some y → ∀ {j : Nat} {v : Value}, (y.1.cells y.2)[j]? = some v → (tcells l)[i * 10 + j]? = some v
  | [], i, y, h, _, _, _ => by simp at h
  | x :: l, 0, y, h, j, v, hv => by
    simp at h
    subst h
    have hj : j < (x.1.cells x.2).length := (List.getElem?_eq_some_iff.1 hv).1
    rw [show tcells (x :: l) = x.1.cells x.2 ++ tcells l from rfl, List.getElem?_append_left (by omega), ← hv]
    congr 1
    omega
  | x :: l, i + 1, y, h, j, v, hv => by
    have ih := tcells_at (l := l) (i := i) (y := y) (by simpa using h) hv
    have hl : (x.1.cells x.2).length = 10 := rfl
    rw [show tcells (x :: l) = x.1.cells x.2 ++ tcells l from rfl, List.getElem?_append_right (by omega), hl, ← ih]
    congr 1
    omega
theorem own_tree {W : World} {base : Nat} {B : Option Addr} {n d : Nat} {ys : List (Tr × TA)} (h : W.ownsRow base 27 10 (.slice B n d) n (tcells ys)) (_hl : ys.length = n) (h0 : 0 < n) :
    ∃ g, B = some ⟨g, 0, none⟩ ∧ g < W.heap.size ∧ ∀ (i : Nat) (y : Tr × TA), ys[i]? = some y → W.cell? ⟨g, i * 10 + 5, none⟩ = some (.int .i64 y.1.cap) ∧ W.cell? ⟨g, i * 10 + 6, none⟩ = some (.string y.1.name) := by
  obtain ⟨g, cap, hf, _, hlt⟩ := h.form h0
  injection hf with hB _ _
  subst hB
  have key : ∀ (i j : Nat) (v : Value), (tcells ys)[i * 10 + j]? = some v → W.cell? ⟨g, i * 10 + j, none⟩ = some v := fun i j v hv => by
    have h1 := h.cells (g := g) rfl (i * 10 + j) v hv
    rw [Go.WideShapes.add_plain, Nat.zero_add] at h1
    exact h1
  exact ⟨g, rfl, hlt, fun i y hy => ⟨key i 5 _ (tcells_at hy rfl), key i 6 _ (tcells_at hy rfl)⟩⟩
/-- Groups rightly numbered and named, up to a place. -/
def CapTo (G : List Tr) (n : Nat) : Prop := ∀ i x, i < n → G[i]? = some x → x.cap = (i : Int) + 1 ∧ (x.name ≠ ⟨#[]⟩ → x.name ∉ (G.take i).map Tr.name)
theorem CapTo.all {G : List Tr} {n : Nat} (h : CapTo G n) (hn : G.length ≤ n) : CapsOK G := fun i x hx => h i x (by have := (List.getElem?_eq_some_iff.1 hx).1; omega) hx
theorem CapTo.step {G : List Tr} {n : Nat} {x : Tr} (h : CapTo G n) (hx : G[n]? = some x) (h1 : x.cap = (n : Int) + 1) (h2 : x.name ≠ ⟨#[]⟩ → ∀ k y, k < n → G[k]? = some y → y.name ≠ x.name) : CapTo G (n + 1) := fun i y hi hy => by
  rcases Nat.lt_succ_iff_lt_or_eq.1 hi with h3 | rfl
  · exact h i y h3 hy
  · rw [hx] at hy
    injection hy with hy
    subst hy
    refine ⟨h1, fun hne hm => ?_⟩
    obtain ⟨z, hz, hzn⟩ := List.mem_map.1 hm
    obtain ⟨k, hk⟩ := List.mem_iff_getElem?.1 hz
    have hkl : k < i := by have := (List.getElem?_eq_some_iff.1 hk).1; rw [List.length_take] at this; omega
    rw [List.getElem?_take, if_pos hkl] at hk
    exact h2 hne k z hkl hk hzn
theorem rightP_iff {t : Tr} : RightP t ↔ t.depth ≤ 50 ∧ t.weight ≤ 4000 ∧ ShapedP t ∧ CapsOK (grp t.all) := by
  constructor
  · rintro ⟨h1, h2, h3, h4⟩
    refine ⟨h1, h2, fun q hq => ⟨h3 q hq, fun h6 => ?_⟩, h4⟩
    have hm : q ∈ grp t.all := List.mem_filter.2 ⟨hq, by simp [h6]⟩
    obtain ⟨i, hi⟩ := List.mem_iff_getElem?.1 hm
    have := (h4 i q hi).1
    omega
  · rintro ⟨h1, h2, h3, h4⟩
    exact ⟨h1, h2, fun q hq => (h3 q hq).1, h4⟩
theorem names_eq {s u : ByteArray} : s.toList = u.toList ↔ s = u := by
  rw [ByteArray.toList_eq, ByteArray.toList_eq]
  constructor
  · intro h
    cases s with | mk d => cases u with | mk d' => congr 1; exact Array.toList_inj.1 h
  · rintro rfl; rfl

set_option maxRecDepth 20000 in
set_option maxHeartbeats 8000000 in
theorem rright_any {w : World} {t : Tr} {kA : Option Addr} {kn kc : Nat} {sA : Option Addr} {sn sc : Nat} (hT : TIn w t ⟨kA, kn, kc, sA, sn, sc⟩) (hp : t.parts ≤ 20000) : Calls Try.prog 20 #[.agg #[.int .i64 t.op, .slice kA kn kc, .int .i32 t.rune, .slice sA sn sc, .int .i64 t.at_, .int .i64 t.cap, .string t.name, .int .i64 t.mn, .int .i64 t.mx, .bool t.lzy]] w (YesB (RightP t) w) := by
  have hb : Below w.heap.size w (w.alloc (.cells #[.int .i64 t.op, .slice kA kn kc, .int .i32 t.rune, .slice sA sn sc, .int .i64 t.at_, .int .i64 t.cap, .string t.name, .int .i64 t.mn, .int .i64 t.mx, .bool t.lzy] 27)) := (Below.refl _ _).alloc (Nat.le_refl _) _
  have hB := TBox.newV w t kA kn kc sA sn sc
  have hd1 := t.depth_le_parts
  have hd2 : (t.depth : Int) ≤ 20000 := by omega
  have HT := Lib.hid (hT.on hb)
  have HB := Lib.hid hb
  have HBX := Lib.hid hB
  clear hb hB hT hd1
  have h10 := HBX.out.ten
  have k0 := h10.c0
  have k1 := h10.c1
  have k2 := h10.c2
  have k3 := h10.c3
  have k4 := h10.c4
  have k5 := h10.c5
  have k6 := h10.c6
  have k7 := h10.c7
  have k8 := h10.c8
  have k9 := h10.c9
  dsimp only at k1 k3
  clear h10
  go_enter Try.func20, Try.ntmps20
  go_wp2_with fail
  generalize w.alloc (.cells #[.int .i64 t.op, .slice kA kn kc, .int .i32 t.rune, .slice sA sn sc, .int .i64 t.at_, .int .i64 t.cap, .string t.name, .int .i64 t.mn, .int .i64 t.mx, .bool t.lzy] 27) = w0 at HB HBX HT k0 k1 k2 k3 k4 k5 k6 k7 k8 k9 ⊢
  refine (rdepth_any t HT.out hp).mono ?_
  rintro e _ ⟨rfl, hb1⟩
  replace HT := Lib.hid (HT.out.on hb1)
  replace HBX := Lib.hid (HBX.out.below hb1)
  replace HB := Lib.hid (HB.out.trans (hb1.mono HB.out.size))
  clear hb1
  clear k0 k1 k2 k3 k4 k5 k6 k7 k8 k9
  have h10 := HBX.out.ten
  have k0 := h10.c0
  have k1 := h10.c1
  have k2 := h10.c2
  have k3 := h10.c3
  have k4 := h10.c4
  have k5 := h10.c5
  have k6 := h10.c6
  have k7 := h10.c7
  have k8 := h10.c8
  have k9 := h10.c9
  dsimp only at k1 k3
  clear h10
  by_cases hdp : t.depth ≤ 50
  case neg =>
    have d0 : decide ((50 : Int) < (t.depth : Int)) = true := decide_eq_true (by omega)
    have d0b : decide (50 < t.depth) = true := decide_eq_true (by omega)
    have hno : ¬ RightP t := fun h => hdp h.1
    have HNO := Lib.hid hno
    clear hno hdp
    go_wp2_with fail
    go_ret
    exact .no HNO.out HB.out
  have d0 : decide ((50 : Int) < (t.depth : Int)) = false := decide_eq_false (by omega)
  have d0b : decide (50 < t.depth) = false := decide_eq_false (by omega)
  have HDP := Lib.hid hdp
  clear hdp
  go_wp2_with fail
  refine (rweight_any t HT.out hp).mono ?_
  rintro e _ ⟨rfl, hb2⟩
  replace HT := Lib.hid (HT.out.on hb2)
  replace HBX := Lib.hid (HBX.out.below hb2)
  replace HB := Lib.hid (HB.out.trans (hb2.mono HB.out.size))
  clear hb2
  clear k0 k1 k2 k3 k4 k5 k6 k7 k8 k9
  have h10 := HBX.out.ten
  have k0 := h10.c0
  have k1 := h10.c1
  have k2 := h10.c2
  have k3 := h10.c3
  have k4 := h10.c4
  have k5 := h10.c5
  have k6 := h10.c6
  have k7 := h10.c7
  have k8 := h10.c8
  have k9 := h10.c9
  dsimp only at k1 k3
  clear h10
  by_cases hwt : t.weight ≤ 4000
  case neg =>
    have e0 : decide ((4000 : Int) < t.weight) = true := decide_eq_true (by omega)
    have hno : ¬ RightP t := fun h => hwt h.2.1
    have HNO := Lib.hid hno
    clear hno hwt
    go_wp2_with fail
    go_ret
    exact .no HNO.out HB.out
  have e0 : decide ((4000 : Int) < t.weight) = false := decide_eq_false (by omega)
  have HWT := Lib.hid hwt
  clear hwt
  go_wp2_with fail
  refine (rshaped_any t HT.out hp).mono ?_
  rintro e _ ⟨v, rfl, hv, hb3⟩
  have HV := Lib.hid hv
  clear hv
  replace HT := Lib.hid (HT.out.on hb3)
  replace HBX := Lib.hid (HBX.out.below hb3)
  replace HB := Lib.hid (HB.out.trans (hb3.mono HB.out.size))
  clear hb3
  clear k0 k1 k2 k3 k4 k5 k6 k7 k8 k9
  have h10 := HBX.out.ten
  have k0 := h10.c0
  have k1 := h10.c1
  have k2 := h10.c2
  have k3 := h10.c3
  have k4 := h10.c4
  have k5 := h10.c5
  have k6 := h10.c6
  have k7 := h10.c7
  have k8 := h10.c8
  have k9 := h10.c9
  dsimp only at k1 k3
  clear h10
  cases v with
  | false =>
    have hno : ¬ RightP t := fun h => by have := HV.out.2 (rightP_iff.1 h).2.2.1; cases this
    have HNO := Lib.hid hno
    clear hno
    go_wp2_with fail
    go_ret
    exact .no HNO.out HB.out
  | true =>
  have HSH := Lib.hid (HV.out.1 rfl)
  clear HV
  go_wp2_with fail
  refine (rgroups_any t HT.out (Below.refl _ _) hp).mono ?_
  rintro e W ⟨ys, B, d, hys, _, rfl, hown, hb4⟩
  have HB4 := Lib.hid (HB.out.trans (hb4.mono HB.out.size))
  clear hb4 HT HBX HB k0 k1 k2 k3 k4 k5 k6 k7 k8 k9
  have hyl : ys.length ≤ 20000 := by
    have h1 := congrArg List.length hys
    rw [List.length_map] at h1
    have h2 := grp_len t.all
    have h3 := t.all_lenG
    omega
  have hlen : (grp t.all).length = ys.length := by rw [← hys, List.length_map]
  have HLEN := Lib.hid hlen
  have hget : ∀ (i : Nat) (y : Tr × TA), ys[i]? = some y → (grp t.all)[i]? = some y.1 := fun i y h => by rw [← hys, List.getElem?_map, h]; rfl
  have hgot : ∀ (i : Nat) (y : Tr), (grp t.all)[i]? = some y → ∃ z, ys[i]? = some z ∧ z.1 = y := fun i y h => by rw [← hys, List.getElem?_map] at h; exact Option.map_eq_some_iff.1 h
  have HGET := Lib.hid hget
  have HGOT := Lib.hid hgot
  have HOWN := Lib.hid hown
  clear hys hown hlen hget hgot
  go_upto_region 7 with fail
  go_wp2_with fail
  go_loopg [5, 6] (ys.length + 1) (fun q i kx V => ∃ (j : Nat), q = ys.length + 1 - j ∧ j ≤ ys.length ∧ i = .int .i64 (j : Int) ∧ Hid (CapTo (grp t.all) j) ∧ Hid (Below W.heap.size W V))
  case atStart => exact ⟨0, rfl, Nat.zero_le _, rfl, Lib.hid (fun _ _ h => by omega), Lib.hid (Below.refl _ _)⟩
  case round =>
    obtain ⟨j, hgk, hj, rfl, HC, HW⟩ := hrel
    have HG := Lib.hid hgk
    have HJ := Lib.hid hj
    clear hgk hj
    by_cases hlt : j < ys.length
    · obtain ⟨g, rfl, hgl, hcell⟩ := own_tree HOWN.out rfl (by omega)
      obtain ⟨y, hy⟩ : ∃ y, ys[j]? = some y := ⟨_, List.getElem?_eq_getElem hlt⟩
      have HCELL : Hid (∀ V, Below W.heap.size W V → ∀ (i : Nat) (z : Tr × TA), ys[i]? = some z → V.cell? ⟨g, i * 10 + 5, none⟩ = some (.int .i64 z.1.cap) ∧ V.cell? ⟨g, i * 10 + 6, none⟩ = some (.string z.1.name)) := Lib.hid fun V hV i z hz => ⟨(hV.cell (p := ⟨g, i * 10 + 5, none⟩) hgl).trans (hcell i z hz).1, (hV.cell (p := ⟨g, i * 10 + 6, none⟩) hgl).trans (hcell i z hz).2⟩
      have HY := Lib.hid hy
      have HLT := Lib.hid hlt
      obtain ⟨c5, c6⟩ := HCELL.out wr HW.out j y hy
      have hi : (j : Int) < (ys.length : Int) := by omega
      have hwr : IntKind.i64.wrap ((j : Int) + 1) = (j : Int) + 1 := IntWalk.i64_in _ (by omega)
      clear hcell hy hlt hgl
      by_cases hcap : y.1.cap = (j : Int) + 1
      case neg =>
        have f0 : (y.1.cap != (j : Int) + 1) = true := bne_iff_ne.2 hcap
        have hno : ¬ RightP t := fun h => hcap ((rightP_iff.1 h).2.2.2 j y.1 (HGET.out j y HY.out)).1
        have HNO := Lib.hid hno
        clear hno hcap
        go_wp2_with fail
        go_ret
        exact .no HNO.out (HB4.out.trans (HW.out.mono HB4.out.size))
      have f0 : (y.1.cap != (j : Int) + 1) = false := bne_eq_false_iff_eq.2 hcap
      have HCAP := Lib.hid hcap
      clear hcap
      go_wp2_with fail
      clear c5 c6
      go_loopg [6] (j + 1) (fun q i V => ∃ (k : Nat), q = j + 1 - k ∧ k ≤ j ∧ i = .int .i64 (k : Int) ∧ Hid (y.1.name ≠ ⟨#[]⟩ → ∀ m z, m < k → (grp t.all)[m]? = some z → z.name ≠ y.1.name) ∧ Hid (Below W.heap.size W V))
      case atStart => exact ⟨0, rfl, Nat.zero_le _, rfl, Lib.hid (fun _ _ _ h => by omega), HW⟩
      case round =>
        obtain ⟨k, hgk, hj, rfl, HN, HW2⟩ := hrel
        have HG2 := Lib.hid hgk
        have HJ2 := Lib.hid hj
        clear hgk hj
        by_cases hlt : k < j
        · obtain ⟨z, hz⟩ : ∃ z, ys[k]? = some z := ⟨_, List.getElem?_eq_getElem (by have := HLT.out; omega)⟩
          have HZ := Lib.hid hz
          have HKT := Lib.hid hlt
          have hik : (k : Int) < (j : Int) := by omega
          have hikn : (k : Int) < (ys.length : Int) := by omega
          have c6 := (HCELL.out wr HW2.out j y HY.out).2
          have d6 := (HCELL.out wr HW2.out k z hz).2
          clear hz hlt
          by_cases hn : z.1.name = y.1.name
          case neg =>
            have n0 : ¬ z.1.name.toList = y.1.name.toList := fun h => hn (names_eq.1 h)
            have n1 : (z.1.name.toList == y.1.name.toList) = false := beq_eq_false_iff_ne.2 n0
            have n2 : decide (z.1.name.toList = y.1.name.toList) = false := decide_eq_false n0
            have HNX : Hid (y.1.name ≠ ⟨#[]⟩ → ∀ m x, m < k + 1 → (grp t.all)[m]? = some x → x.name ≠ y.1.name) := Lib.hid fun hne m x hm hx => by
              rcases Nat.lt_succ_iff_lt_or_eq.1 hm with h3 | rfl
              · exact HN.out hne m x h3 hx
              · have := (HGET.out m z HZ.out).symm.trans hx
                injection this with this
                rw [← this]; exact hn
            clear hn n0
            go_wp2_with fail
            go_big_quiet (fail)
            go_wp2_with fail
            go_roundg (j + 1 - (k + 1))
            case measure => have := HG2.out; have := HKT.out; omega
            case rel => exact ⟨k + 1, rfl, by have := HKT.out; omega, by go_num, HNX, Lib.hid HW2.out.drewN⟩
          have n0 : z.1.name.toList = y.1.name.toList := names_eq.2 hn
          have HZN := Lib.hid hn
          clear hn
          by_cases he : y.1.name = ⟨#[]⟩
          · have e0 : y.1.name.toList.isEmpty = true := name_empty.2 he
            have HNX : Hid (y.1.name ≠ ⟨#[]⟩ → ∀ m x, m < k + 1 → (grp t.all)[m]? = some x → x.name ≠ y.1.name) := Lib.hid fun hne => absurd he hne
            clear he
            go_wp2_with fail
            go_big_quiet (fail)
            go_wp2_with fail
            go_roundg (j + 1 - (k + 1))
            case measure => have := HG2.out; have := HKT.out; omega
            case rel => exact ⟨k + 1, rfl, by have := HKT.out; omega, by go_num, HNX, Lib.hid HW2.out.drewN⟩
          · have e0 : y.1.name.toList.isEmpty = false := by cases h : y.1.name.toList.isEmpty with | false => rfl | true => exact absurd (name_empty.1 h) he
            have hno : ¬ RightP t := fun h => by
              have h1 := ((rightP_iff.1 h).2.2.2 j y.1 (HGET.out j y HY.out)).2 he
              refine h1 (List.mem_map.2 ⟨z.1, ?_, HZN.out⟩)
              refine List.mem_of_getElem? (i := k) ?_
              rw [List.getElem?_take, if_pos HKT.out]
              exact HGET.out k z HZ.out
            have HNO := Lib.hid hno
            clear he hno
            go_wp2_with fail
            go_big_quiet (fail)
            go_wp2_with fail
            go_ret
            exact .no HNO.out (HB4.out.trans (HW2.out.drewN.mono HB4.out.size))
        · have hik : ¬ (k : Int) < (j : Int) := by omega
          obtain rfl : k = j := by have := HJ2.out; omega
          have hst := HC.out.step (HGET.out k y HY.out) HCAP.out HN.out
          have HST := Lib.hid hst
          clear hlt hst
          go_wp2_with fail
          go_roundg (ys.length + 1 - (k + 1))
          case measure => have := HG.out; have := HLT.out; omega
          case rel => exact ⟨k + 1, rfl, by have := HLT.out; omega, by go_num, HST, HW2⟩
    · have hi : ¬ (j : Int) < (ys.length : Int) := by omega
      have hyes : RightP t := rightP_iff.2 ⟨HDP.out, HWT.out, HSH.out, HC.out.all (by have := HLEN.out; omega)⟩
      have HYES := Lib.hid hyes
      clear hlt hyes
      go_wp2_with fail
      go_ret
      exact .yes HYES.out (HB4.out.trans (HW.out.mono HB4.out.size))
end Go.Proofs.Ytbhcgjahlfpjoaa
