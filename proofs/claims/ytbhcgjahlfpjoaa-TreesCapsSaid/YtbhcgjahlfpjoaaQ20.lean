/- The names of a tree's groups: the reference's Caps: the walk. -/
import Derived.Test.YtbhcgjahlfpjoaaQ18
import Derived.Test.YtbhcgjahlfpjoaaQ14
namespace Go.Proofs.Ytbhcgjahlfpjoaa
open Go.RowKit

theorem elS : ElemOK Try.prog 30 9 1 16 := .mk' (z := .string ⟨#[]⟩) Try.underlying30 (by kernel_rfl) rfl (by decide)
theorem lit_own {W V : World} {g : Nat} (hV : W.alloc (.cells #[.string ⟨#[]⟩] 9) = V) (hg : W.heap.size = g) {base : Nat} (hb : base ≤ W.heap.size) : V.ownsRow base 9 1 (.slice (some ⟨g, 0, none⟩) 1 1) 1 (strs (capL [])) := by
  subst hV; subst hg
  exact World.ownsRow_lit (base := base) (size := 1) (e := 9) W #[.string ⟨#[]⟩] 1 hb (by unfold maxLen; omega) rfl

set_option maxRecDepth 20000 in
set_option maxHeartbeats 8000000 in
theorem rcaps_any {w : World} {t : Tr} {kA : Option Addr} {kn kc : Nat} {sA : Option Addr} {sn sc : Nat} (hT : TIn w t ⟨kA, kn, kc, sA, sn, sc⟩) (hp : t.parts ≤ 20000) : Calls Try.prog 22 #[.agg #[.int .i64 t.op, .slice kA kn kc, .int .i32 t.rune, .slice sA sn sc, .int .i64 t.at_, .int .i64 t.cap, .string t.name, .int .i64 t.mn, .int .i64 t.mx, .bool t.lzy]] w (CapsB t w) := by
  have hb : Below w.heap.size w (w.alloc (.cells #[.int .i64 t.op, .slice kA kn kc, .int .i32 t.rune, .slice sA sn sc, .int .i64 t.at_, .int .i64 t.cap, .string t.name, .int .i64 t.mn, .int .i64 t.mx, .bool t.lzy] 27)) := (Below.refl _ _).alloc (Nat.le_refl _) _
  have hB := TBox.newV w t kA kn kc sA sn sc
  have HT := Lib.hid (hT.on hb)
  have HB := Lib.hid hb
  have HBX := Lib.hid hB
  clear hb hB hT
  have h10 := HBX.out.ten
  have k0 := h10.c0
  have k1 := h10.c1
  have k2 := h10.c2
  have k3 := h10.c3
  have k4 := h10.c4
  have k5 := h10.c5
  have k6 := h10.c6
  have k7 := h10.c7
  have k8 := h10.c8
  have k9 := h10.c9
  dsimp only at k1 k3
  clear h10
  go_enter Try.func22, Try.ntmps22
  go_wp2_with fail
  generalize w.alloc (.cells #[.int .i64 t.op, .slice kA kn kc, .int .i32 t.rune, .slice sA sn sc, .int .i64 t.at_, .int .i64 t.cap, .string t.name, .int .i64 t.mn, .int .i64 t.mx, .bool t.lzy] 27) = w0 at HB HBX HT k0 k1 k2 k3 k4 k5 k6 k7 k8 k9 ⊢
  refine (rright_any HT.out hp).mono ?_
  rintro e w1 ⟨v, rfl, hv, hb1⟩
  have HV := Lib.hid hv
  clear hv
  replace HT := Lib.hid (HT.out.on hb1)
  replace HBX := Lib.hid (HBX.out.below hb1)
  replace HB := Lib.hid (HB.out.trans (hb1.mono HB.out.size))
  clear hb1
  clear k0 k1 k2 k3 k4 k5 k6 k7 k8 k9
  have h10 := HBX.out.ten
  have k0 := h10.c0
  have k1 := h10.c1
  have k2 := h10.c2
  have k3 := h10.c3
  have k4 := h10.c4
  have k5 := h10.c5
  have k6 := h10.c6
  have k7 := h10.c7
  have k8 := h10.c8
  have k9 := h10.c9
  dsimp only at k1 k3
  clear h10
  cases v with
  | false =>
    have hno : ¬ RightP t := fun h => by have := HV.out.2 h; cases this
    have HNO := Lib.hid hno
    clear hno
    go_wp2_with fail
    go_ret
    exact .inl ⟨HNO.out, rfl, HB.out⟩
  | true =>
  have HOK := Lib.hid (HV.out.1 rfl)
  clear HV
  go_upto_region 5 with fail
  obtain ⟨W1, hW1⟩ : ∃ W1, w1.alloc (.cells #[.string ⟨#[]⟩] 9) = W1 := ⟨_, rfl⟩
  obtain ⟨g0, hg0⟩ : ∃ g0, w1.heap.size = g0 := ⟨_, rfl⟩
  have hlit := lit_own hW1 hg0 (base := w.heap.size) HB.out.size
  have hb2 : Below w1.heap.size w1 W1 := by rw [← hW1]; exact (Below.refl _ _).alloc (Nat.le_refl _) _
  rw [hW1, hg0]
  have HLIT := Lib.hid hlit
  replace HT := Lib.hid (HT.out.on hb2)
  replace HBX := Lib.hid (HBX.out.below hb2)
  replace HB := Lib.hid (HB.out.trans (hb2.mono HB.out.size))
  clear hW1 hg0 hlit hb2
  clear k0 k1 k2 k3 k4 k5 k6 k7 k8 k9
  have h10 := HBX.out.ten
  have k0 := h10.c0
  have k1 := h10.c1
  have k2 := h10.c2
  have k3 := h10.c3
  have k4 := h10.c4
  have k5 := h10.c5
  have k6 := h10.c6
  have k7 := h10.c7
  have k8 := h10.c8
  have k9 := h10.c9
  dsimp only at k1 k3
  clear h10
  go_wp2_with fail
  refine (rgroups_any t HT.out (Below.refl _ _) hp).mono ?_
  rintro e W ⟨ys, B, dz, hys, _, rfl, hown, hb4⟩
  have hout := ownKept HLIT.out hb4
  have HOUT := Lib.hid hout
  have HB4 := Lib.hid (HB.out.trans (hb4.mono HB.out.size))
  clear hout hb4 HT HBX HB HLIT k0 k1 k2 k3 k4 k5 k6 k7 k8 k9
  have hyl : ys.length ≤ 20000 := by
    have h1 := congrArg List.length hys
    rw [List.length_map] at h1
    have h2 := grp_len t.all
    have h3 := t.all_lenG
    omega
  have hlen : (grp t.all).length = ys.length := by rw [← hys, List.length_map]
  have HLEN := Lib.hid hlen
  have hget : ∀ (i : Nat) (y : Tr × TA), ys[i]? = some y → (grp t.all)[i]? = some y.1 := fun i y h => by rw [← hys, List.getElem?_map, h]; rfl
  have HGET := Lib.hid hget
  have HOWN := Lib.hid hown
  clear hys hown hlen hget
  go_wp2_with fail
  go_loopg [6, 4] (ys.length + 1) (fun q i v V => ∃ (j : Nat) (A : Option Addr) (d : Nat), q = ys.length + 1 - j ∧ j ≤ ys.length ∧ i = .int .i64 (j : Int) ∧ v = .slice A (j + 1) d ∧ Hid (V.ownsRow w.heap.size 9 1 (.slice A (j + 1) d) (j + 1) (strs (capL ((grp t.all).take j)))) ∧ Hid (V.ownsRow W1.heap.size 27 10 (.slice B ys.length dz) ys.length (tcells ys)) ∧ Hid (Below w.heap.size w V))
  case atStart => exact ⟨0, _, 1, rfl, Nat.zero_le _, rfl, rfl, HOUT, HOWN, HB4⟩
  case round =>
    obtain ⟨j, A, d, hgk, hj, rfl, rfl, HO, HY, HW⟩ := hrel
    have HG := Lib.hid hgk
    have HJ := Lib.hid hj
    clear hgk hj
    by_cases hlt : j < ys.length
    · obtain ⟨g, rfl, hgl, hcell⟩ := own_tree HY.out rfl (by omega)
      obtain ⟨y, hy⟩ : ∃ y, ys[j]? = some y := ⟨_, List.getElem?_eq_getElem hlt⟩
      have c6 := (hcell j y hy).2
      have hown := HO.out
      have hsz := HW.out.size
      have HYY := Lib.hid hy
      have HLT := Lib.hid hlt
      have hi : (j : Int) < (ys.length : Int) := by omega
      clear hcell hy hlt hgl
      go_wp2_with (at_builtin; refine wpList_app _ rfl _ _ 30 rfl w.heap.size 9 elS _ _ _ rfl (hown.alloc _) 0 (wr.heap.size + 1) _ 1 1 [.string y.1.name] rfl (fun h => by cases h) rfl (Rd.new wr _ _ _ (Nat.zero_le _) (by omega)) (by simp [Value.oneCell']) (by unfold maxLen; omega) (by omega) (by simp; omega) ?_; intro v2 W2 hv2 hg2 _ _)
      obtain ⟨A2, d2, rfl, _, _⟩ := own_form hv2
      have hW2 := (HW.out.alloc HW.out.size _).grown hg2 (by simp; omega) (fun k hk => (hown.lt k hk).1)
      have hY2 := (HY.out.alloc _).kept hg2 (own_ne_own HY.out hown (by decide))
      have htk : (grp t.all).take (j + 1) = (grp t.all).take j ++ [y.1] := take_snoc (HGET.out j y HYY.out)
      have hO2 : W2.ownsRow w.heap.size 9 1 (.slice A2 (j + 1 + 1) d2) (j + 1 + 1) (strs (capL ((grp t.all).take (j + 1)))) := by
        rw [htk, capL_snoc, strs_append]
        exact hv2
      have HO2 := Lib.hid hO2
      have HY2 := Lib.hid hY2
      have HW2 := Lib.hid hW2
      clear hv2 hg2 hW2 hY2 hO2 htk hown
      go_roundg (ys.length + 1 - (j + 1))
      case measure => have := HG.out; have := HLT.out; omega
      case rel => exact ⟨j + 1, A2, d2, rfl, by have := HLT.out; omega, by go_num, rfl, HO2, HY2, HW2⟩
    · have hi : ¬ (j : Int) < (ys.length : Int) := by omega
      obtain rfl : j = ys.length := by have := HJ.out; omega
      have hO := HO.out
      rw [List.take_of_length_le (by have := HLEN.out; omega)] at hO
      have hl : ys.length + 1 = (capL (grp t.all)).length := by rw [capL_len]; have := HLEN.out; omega
      rw [hl] at hO
      have HFO := Lib.hid hO
      have HL := Lib.hid hl
      clear hlt hO hl
      go_wp2_with fail
      go_ret
      exact .inr ⟨HOK.out, A, d, by rw [← HL.out]; rfl, HFO.out, HW.out⟩
end Go.Proofs.Ytbhcgjahlfpjoaa
