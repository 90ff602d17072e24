/- Are trees alike: the reference's Same, of alike trees: the walk. -/
import Derived.Test.YtbhcgjahlfpjoaaQ18
import Derived.Test.YtbhcgjahlfpjoaaHeld
namespace Go.Proofs.Ytbhcgjahlfpjoaa
open Go.RowKit

set_option maxRecDepth 20000 in
set_option maxHeartbeats 8000000 in
theorem rsame_yes : ∀ (t : Tr) {w : World} {kA : Option Addr} {kn kc : Nat} {sA : Option Addr} {sn sc : Nat} {lA : Option Addr} {ln lc : Nat} {rA : Option Addr} {rn rc : Nat}, TIn w t ⟨kA, kn, kc, sA, sn, sc⟩ → TIn w t ⟨lA, ln, lc, rA, rn, rc⟩ → t.parts ≤ 20000 → Calls Try.prog 32 #[.agg #[.int .i64 t.op, .slice kA kn kc, .int .i32 t.rune, .slice sA sn sc, .int .i64 t.at_, .int .i64 t.cap, .string t.name, .int .i64 t.mn, .int .i64 t.mx, .bool t.lzy], .agg #[.int .i64 t.op, .slice lA ln lc, .int .i32 t.rune, .slice rA rn rc, .int .i64 t.at_, .int .i64 t.cap, .string t.name, .int .i64 t.mn, .int .i64 t.mx, .bool t.lzy]] w fun e w' => e = .returned (.bool true) ∧ Below w.heap.size w w' := by
  intro t
  induction t using Tr.ind with
  | h t ih =>
  intro w kA kn kc sA sn sc lA ln lc rA rn rc hT hU hp
  have hb1 : Below w.heap.size w (w.alloc (.cells #[.int .i64 t.op, .slice kA kn kc, .int .i32 t.rune, .slice sA sn sc, .int .i64 t.at_, .int .i64 t.cap, .string t.name, .int .i64 t.mn, .int .i64 t.mx, .bool t.lzy] 27)) := (Below.refl _ _).alloc (Nat.le_refl _) _
  have hb : Below w.heap.size w ((w.alloc (.cells #[.int .i64 t.op, .slice kA kn kc, .int .i32 t.rune, .slice sA sn sc, .int .i64 t.at_, .int .i64 t.cap, .string t.name, .int .i64 t.mn, .int .i64 t.mx, .bool t.lzy] 27)).alloc (.cells #[.int .i64 t.op, .slice lA ln lc, .int .i32 t.rune, .slice rA rn rc, .int .i64 t.at_, .int .i64 t.cap, .string t.name, .int .i64 t.mn, .int .i64 t.mx, .bool t.lzy] 27)) := hb1.alloc hb1.size _
  have hX := (TBox.newV w t kA kn kc sA sn sc).below (show Below _ _ ((w.alloc (.cells #[.int .i64 t.op, .slice kA kn kc, .int .i32 t.rune, .slice sA sn sc, .int .i64 t.at_, .int .i64 t.cap, .string t.name, .int .i64 t.mn, .int .i64 t.mx, .bool t.lzy] 27)).alloc (.cells #[.int .i64 t.op, .slice lA ln lc, .int .i32 t.rune, .slice rA rn rc, .int .i64 t.at_, .int .i64 t.cap, .string t.name, .int .i64 t.mn, .int .i64 t.mx, .bool t.lzy] 27)) from (Below.refl _ _).alloc (Nat.le_refl _) _)
  have hY := TBox.newV (w.alloc (.cells #[.int .i64 t.op, .slice kA kn kc, .int .i32 t.rune, .slice sA sn sc, .int .i64 t.at_, .int .i64 t.cap, .string t.name, .int .i64 t.mn, .int .i64 t.mx, .bool t.lzy] 27)) t lA ln lc rA rn rc
  rw [World.size_alloc] at hY
  have hkp : ∀ k ∈ t.kids, k.parts ≤ 20000 := fun k hk => by have := Tr.partsL_le hk; rw [Tr.parts_eq] at hp; omega
  have hkn : kn ≤ 20000 := by have := Tr.len_le_partsL t.kids; rw [Tr.parts_eq] at hp; obtain ⟨ka, hK⟩ := hT.kidsV; have := hK.len; omega
  have hln : kn = ln := by obtain ⟨ka, hK⟩ := hT.kidsV; obtain ⟨kb, hL⟩ := hU.kidsV; have h1 := hK.len; have h2 := hL.len; omega
  subst hln
  obtain ⟨ka, hK⟩ := (hT.on hb).kidsV
  obtain ⟨kb, hL⟩ := (hU.on hb).kidsV
  have hset := refSame_any (hT.on hb).set (hU.on hb).set
  dsimp only at hset
  rw [decide_eq_true rfl] at hset
  have h10 := hX.ten
  have k0 := h10.c0
  have k1 := h10.c1
  have k2 := h10.c2
  have k3 := h10.c3
  have k4 := h10.c4
  have k5 := h10.c5
  have k6 := h10.c6
  have k7 := h10.c7
  have k8 := h10.c8
  have k9 := h10.c9
  have h11 := hY.ten
  have j0 := h11.c0
  have j1 := h11.c1
  have j2 := h11.c2
  have j3 := h11.c3
  have j4 := h11.c4
  have j5 := h11.c5
  have j6 := h11.c6
  have j7 := h11.c7
  have j8 := h11.c8
  have j9 := h11.c9
  dsimp only at k1 k3 j1 j3
  have HK := Lib.hid hK
  have HL := Lib.hid hL
  have HB := Lib.hid hb
  have HX := Lib.hid hX
  have HY := Lib.hid hY
  have HP := Lib.hid hkp
  have IH := Lib.hid ih
  clear hb1 hb hX hY hkp ih hT hU hp h10 h11 hK hL
  go_enter Try.func32, Try.ntmps32
  go_upto_region 1 with fail
  generalize (w.alloc (.cells #[.int .i64 t.op, .slice kA kn kc, .int .i32 t.rune, .slice sA sn sc, .int .i64 t.at_, .int .i64 t.cap, .string t.name, .int .i64 t.mn, .int .i64 t.mx, .bool t.lzy] 27)).alloc (.cells #[.int .i64 t.op, .slice lA kn lc, .int .i32 t.rune, .slice rA rn rc, .int .i64 t.at_, .int .i64 t.cap, .string t.name, .int .i64 t.mn, .int .i64 t.mx, .bool t.lzy] 27) = w0 at HB HX HY HK HL hset k0 k1 k2 k3 k4 k5 k6 k7 k8 k9 j0 j1 j2 j3 j4 j5 j6 j7 j8 j9 ⊢
  go_wp2_with fail
  refine hset.mono ?_
  rintro e w2 ⟨rfl, hw2⟩
  have hb2 : Below w0.heap.size w0 w2 := by obtain ⟨q, rfl⟩ := hw2; exact (Below.refl _ _).drewN
  replace HX := Lib.hid (HX.out.below hb2)
  replace HY := Lib.hid (HY.out.below hb2)
  replace HB := Lib.hid (HB.out.trans (hb2.mono HB.out.size))
  replace HK := Lib.hid (HK.out.below hb2)
  replace HL := Lib.hid (HL.out.below hb2)
  clear hset hb2 hw2 k0 k1 k2 k3 k4 k5 k6 k7 k8 k9 j0 j1 j2 j3 j4 j5 j6 j7 j8 j9
  have h10 := HX.out.ten
  have k0 := h10.c0
  have k1 := h10.c1
  have k2 := h10.c2
  have k3 := h10.c3
  have k4 := h10.c4
  have k5 := h10.c5
  have k6 := h10.c6
  have k7 := h10.c7
  have k8 := h10.c8
  have k9 := h10.c9
  have h11 := HY.out.ten
  have j0 := h11.c0
  have j1 := h11.c1
  have j2 := h11.c2
  have j3 := h11.c3
  have j4 := h11.c4
  have j5 := h11.c5
  have j6 := h11.c6
  have j7 := h11.c7
  have j8 := h11.c8
  have j9 := h11.c9
  dsimp only at k1 k3 j1 j3
  clear h10 h11
  go_wp2_with fail
  clear k0 k1 k2 k3 k4 k5 k6 k7 k8 k9 j0 j1 j2 j3 j4 j5 j6 j7 j8 j9
  go_loopg [6] (kn + 1) (fun q i W => ∃ j : Nat, q = kn + 1 - j ∧ j ≤ kn ∧ i = .int .i64 (j : Int) ∧ Hid (Below w2.heap.size w2 W))
  case atStart => exact ⟨0, rfl, Nat.zero_le _, rfl, Lib.hid (by first | exact Below.refl _ _ | exact (Below.refl _ _).drewN)⟩
  case round =>
    obtain ⟨j, hgk, hj, rfl, HW⟩ := hrel
    have HG := Lib.hid hgk
    have HJ := Lib.hid hj
    have c1 := (HX.out.below HW.out).ten.c1
    have d1 := (HY.out.below HW.out).ten.c1
    dsimp only at c1 d1
    clear hgk hj
    by_cases hlt : j < kn
    · obtain ⟨b, o, k, x, rfl, hb, hk, hx, hc⟩ := HK.out.at hlt
      obtain ⟨b2, o2, k2, y, rfl, hb2, hk2, hy, hc2⟩ := HL.out.at hlt
      obtain rfl : k = k2 := by rw [hk] at hk2; injection hk2
      have hi : (j : Int) < (kn : Int) := by omega
      have hcall := fun (V : World) (hV : Below w2.heap.size w2 V) => IH.out k (List.mem_of_getElem? hk) (hx.on hV) (hy.on hV) (HP.out k (List.mem_of_getElem? hk))
      have HLT := Lib.hid hlt
      have HC := Lib.hid hc
      have HC2 := Lib.hid hc2
      have HCALL : Hid (∀ V : World, Below w2.heap.size w2 V → Calls Try.prog 32 #[.agg #[.int .i64 k.op, .slice x.kA x.kn x.kc, .int .i32 k.rune, .slice x.sA x.sn x.sc, .int .i64 k.at_, .int .i64 k.cap, .string k.name, .int .i64 k.mn, .int .i64 k.mx, .bool k.lzy], .agg #[.int .i64 k.op, .slice y.kA y.kn y.kc, .int .i32 k.rune, .slice y.sA y.sn y.sc, .int .i64 k.at_, .int .i64 k.cap, .string k.name, .int .i64 k.mn, .int .i64 k.mx, .bool k.lzy]] V fun e w' => e = .returned (.bool true) ∧ Below V.heap.size V w') := Lib.hid hcall
      have hSall : ∀ V : World, Below w2.heap.size w2 V → V.cell? ⟨w.heap.size, 1, none⟩ = some (.slice (some ⟨b, o, none⟩) kn kc) ∧ V.cell? ⟨w.heap.size + 1, 1, none⟩ = some (.slice (some ⟨b2, o2, none⟩) kn lc) ∧ V.cell? ⟨b, o + j * 10, none⟩ = some (.int .i64 k.op) ∧ V.cell? ⟨b, o + j * 10 + 1, none⟩ = some (.slice x.kA x.kn x.kc) ∧ V.cell? ⟨b, o + j * 10 + 2, none⟩ = some (.int .i32 k.rune) ∧ V.cell? ⟨b, o + j * 10 + 3, none⟩ = some (.slice x.sA x.sn x.sc) ∧ V.cell? ⟨b, o + j * 10 + 4, none⟩ = some (.int .i64 k.at_) ∧ V.cell? ⟨b, o + j * 10 + 5, none⟩ = some (.int .i64 k.cap) ∧ V.cell? ⟨b, o + j * 10 + 6, none⟩ = some (.string k.name) ∧ V.cell? ⟨b, o + j * 10 + 7, none⟩ = some (.int .i64 k.mn) ∧ V.cell? ⟨b, o + j * 10 + 8, none⟩ = some (.int .i64 k.mx) ∧ V.cell? ⟨b, o + j * 10 + 9, none⟩ = some (.bool k.lzy) ∧ V.cell? ⟨b2, o2 + j * 10, none⟩ = some (.int .i64 k.op) ∧ V.cell? ⟨b2, o2 + j * 10 + 1, none⟩ = some (.slice y.kA y.kn y.kc) ∧ V.cell? ⟨b2, o2 + j * 10 + 2, none⟩ = some (.int .i32 k.rune) ∧ V.cell? ⟨b2, o2 + j * 10 + 3, none⟩ = some (.slice y.sA y.sn y.sc) ∧ V.cell? ⟨b2, o2 + j * 10 + 4, none⟩ = some (.int .i64 k.at_) ∧ V.cell? ⟨b2, o2 + j * 10 + 5, none⟩ = some (.int .i64 k.cap) ∧ V.cell? ⟨b2, o2 + j * 10 + 6, none⟩ = some (.string k.name) ∧ V.cell? ⟨b2, o2 + j * 10 + 7, none⟩ = some (.int .i64 k.mn) ∧ V.cell? ⟨b2, o2 + j * 10 + 8, none⟩ = some (.int .i64 k.mx) ∧ V.cell? ⟨b2, o2 + j * 10 + 9, none⟩ = some (.bool k.lzy) := fun V hV => by
        have a1 := (HX.out.below hV).ten.c1
        have a2 := (HY.out.below hV).ten.c1
        dsimp only at a1 a2
        have h10 := HC.out V (.of_below hV (Nat.le_refl _))
        have h11 := HC2.out V (.of_below hV (Nat.le_refl _))
        exact ⟨a1, a2, h10.c0, h10.c1, h10.c2, h10.c3, h10.c4, h10.c5, h10.c6, h10.c7, h10.c8, h10.c9, h11.c0, h11.c1, h11.c2, h11.c3, h11.c4, h11.c5, h11.c6, h11.c7, h11.c8, h11.c9⟩
      have HS := Lib.hid hSall
      clear hcall hc hc2 hx hy hk hk2 hb hb2 hlt hSall
      go_upto_region 7 with fail
      replace HW := Lib.hid HW.out.drew
      have hS := HS.out _ HW.out
      clear c1 d1
      refine wp_region_T (S := fun w' => w'.cell? ⟨w.heap.size, 1, none⟩ = some (.slice (some ⟨b, o, none⟩) kn kc) ∧ w'.cell? ⟨w.heap.size + 1, 1, none⟩ = some (.slice (some ⟨b2, o2, none⟩) kn lc) ∧ w'.cell? ⟨b, o + j * 10, none⟩ = some (.int .i64 k.op) ∧ w'.cell? ⟨b, o + j * 10 + 1, none⟩ = some (.slice x.kA x.kn x.kc) ∧ w'.cell? ⟨b, o + j * 10 + 2, none⟩ = some (.int .i32 k.rune) ∧ w'.cell? ⟨b, o + j * 10 + 3, none⟩ = some (.slice x.sA x.sn x.sc) ∧ w'.cell? ⟨b, o + j * 10 + 4, none⟩ = some (.int .i64 k.at_) ∧ w'.cell? ⟨b, o + j * 10 + 5, none⟩ = some (.int .i64 k.cap) ∧ w'.cell? ⟨b, o + j * 10 + 6, none⟩ = some (.string k.name) ∧ w'.cell? ⟨b, o + j * 10 + 7, none⟩ = some (.int .i64 k.mn) ∧ w'.cell? ⟨b, o + j * 10 + 8, none⟩ = some (.int .i64 k.mx) ∧ w'.cell? ⟨b, o + j * 10 + 9, none⟩ = some (.bool k.lzy) ∧ w'.cell? ⟨b2, o2 + j * 10, none⟩ = some (.int .i64 k.op) ∧ w'.cell? ⟨b2, o2 + j * 10 + 1, none⟩ = some (.slice y.kA y.kn y.kc) ∧ w'.cell? ⟨b2, o2 + j * 10 + 2, none⟩ = some (.int .i32 k.rune) ∧ w'.cell? ⟨b2, o2 + j * 10 + 3, none⟩ = some (.slice y.sA y.sn y.sc) ∧ w'.cell? ⟨b2, o2 + j * 10 + 4, none⟩ = some (.int .i64 k.at_) ∧ w'.cell? ⟨b2, o2 + j * 10 + 5, none⟩ = some (.int .i64 k.cap) ∧ w'.cell? ⟨b2, o2 + j * 10 + 6, none⟩ = some (.string k.name) ∧ w'.cell? ⟨b2, o2 + j * 10 + 7, none⟩ = some (.int .i64 k.mn) ∧ w'.cell? ⟨b2, o2 + j * 10 + 8, none⟩ = some (.int .i64 k.mx) ∧ w'.cell? ⟨b2, o2 + j * 10 + 9, none⟩ = some (.bool k.lzy)) (t := 12) (by kernel_rfl) ?_
      refine wpAnyT_take (i := 0) (v := ?_) rfl (by kernel_rfl) (by kernel_rfl) (by kernel_rfl) (fun _ _ _ h => h) (by kernel_rfl) (Or.inl ⟨by rfl, ?_⟩) hS ?_
      rotate_left
      · (intro w _; go_simp; try with_reducible rfl)
      try simp only [List.getElem_toArray, List.getElem_cons_zero, Act.put, List.setIfInBounds_toArray, List.set_cons_zero, List.set_cons_succ]
      refine wpAnyT_take (i := 1) (v := ?_) rfl (by kernel_rfl) (by kernel_rfl) (by kernel_rfl) (fun _ _ _ h => h) (by kernel_rfl) (Or.inl ⟨by rfl, ?_⟩) hS ?_
      rotate_left
      · (intro w hS; obtain ⟨s0, s1, s2, s3, s4, s5, s6, s7, s8, s9, s10, s11, s12, s13, s14, s15, s16, s17, s18, s19, s20, s21⟩ := hS; go_simp; try with_reducible rfl)
      try simp only [List.getElem_toArray, List.getElem_cons_succ, List.getElem_cons_zero, Act.put, List.setIfInBounds_toArray, List.set_cons_zero, List.set_cons_succ]
      refine wpAnyT_take (i := 2) (v := ?_) rfl (by kernel_rfl) (by kernel_rfl) (by kernel_rfl) (fun _ _ _ h => h) (by kernel_rfl) (Or.inl ⟨by rfl, ?_⟩) hS ?_
      rotate_left
      · (intro w _; go_simp; try with_reducible rfl)
      try simp only [List.getElem_toArray, List.getElem_cons_succ, List.getElem_cons_zero, Act.put, List.setIfInBounds_toArray, List.set_cons_zero, List.set_cons_succ]
      refine wpAnyT_take (i := 3) (v := ?_) rfl (by kernel_rfl) (by kernel_rfl) (by kernel_rfl) (fun _ _ _ h => h) (by kernel_rfl) (Or.inl ⟨by rfl, ?_⟩) hS ?_
      rotate_left
      · (intro w _; go_simp; try with_reducible rfl)
      try simp only [List.getElem_toArray, List.getElem_cons_succ, List.getElem_cons_zero, Act.put, List.setIfInBounds_toArray, List.set_cons_zero, List.set_cons_succ]
      refine wpAnyT_take (i := 4) (v := ?_) rfl (by kernel_rfl) (by kernel_rfl) (by kernel_rfl) (fun _ _ _ h => h) (by kernel_rfl) (Or.inl ⟨by rfl, ?_⟩) hS ?_
      rotate_left
      · (intro w hS; obtain ⟨s0, s1, s2, s3, s4, s5, s6, s7, s8, s9, s10, s11, s12, s13, s14, s15, s16, s17, s18, s19, s20, s21⟩ := hS; go_simp; try with_reducible rfl)
      try simp only [List.getElem_toArray, List.getElem_cons_succ, List.getElem_cons_zero, Act.put, List.setIfInBounds_toArray, List.set_cons_zero, List.set_cons_succ]
      refine wpAnyT_take (i := 5) (v := ?_) rfl (by kernel_rfl) (by kernel_rfl) (by kernel_rfl) (fun _ _ _ h => h) (by kernel_rfl) (Or.inl ⟨by rfl, ?_⟩) hS ?_
      rotate_left
      · (intro w _; go_simp; try with_reducible rfl)
      try simp only [List.getElem_toArray, List.getElem_cons_succ, List.getElem_cons_zero, Act.put, List.setIfInBounds_toArray, List.set_cons_zero, List.set_cons_succ]
      refine wpAnyT_take (i := 6) (v := ?_) rfl (by kernel_rfl) (by kernel_rfl) (by kernel_rfl) (fun _ _ _ h => h) (by kernel_rfl) (Or.inl ⟨by rfl, ?_⟩) hS ?_
      rotate_left
      · (intro w hS; obtain ⟨s0, s1, s2, s3, s4, s5, s6, s7, s8, s9, s10, s11, s12, s13, s14, s15, s16, s17, s18, s19, s20, s21⟩ := hS; go_simp; try with_reducible rfl)
      try simp only [List.getElem_toArray, List.getElem_cons_succ, List.getElem_cons_zero, Act.put, List.setIfInBounds_toArray, List.set_cons_zero, List.set_cons_succ]
      refine wpAnyT_take (i := 7) (v := ?_) rfl (by kernel_rfl) (by kernel_rfl) (by kernel_rfl) (fun _ _ _ h => h) (by kernel_rfl) (Or.inl ⟨by rfl, ?_⟩) hS ?_
      rotate_left
      · (intro w _; go_simp; try with_reducible rfl)
      try simp only [List.getElem_toArray, List.getElem_cons_succ, List.getElem_cons_zero, Act.put, List.setIfInBounds_toArray, List.set_cons_zero, List.set_cons_succ]
      refine wpAnyT_take (i := 8) (v := ?_) rfl (by kernel_rfl) (by kernel_rfl) (by kernel_rfl) (fun _ _ _ h => h) (by kernel_rfl) (Or.inl ⟨by rfl, ?_⟩) hS ?_
      rotate_left
      · (intro w _; go_simp; try with_reducible rfl)
      try simp only [List.getElem_toArray, List.getElem_cons_succ, List.getElem_cons_zero, Act.put, List.setIfInBounds_toArray, List.set_cons_zero, List.set_cons_succ]
      refine wpAnyT_take (i := 9) (v := ?_) rfl (by kernel_rfl) (by kernel_rfl) (by kernel_rfl) (fun _ _ _ h => h) (by kernel_rfl) (Or.inl ⟨by rfl, ?_⟩) hS ?_
      rotate_left
      · (intro w hS; obtain ⟨s0, s1, s2, s3, s4, s5, s6, s7, s8, s9, s10, s11, s12, s13, s14, s15, s16, s17, s18, s19, s20, s21⟩ := hS; go_simp; try with_reducible rfl)
      try simp only [List.getElem_toArray, List.getElem_cons_succ, List.getElem_cons_zero, Act.put, List.setIfInBounds_toArray, List.set_cons_zero, List.set_cons_succ]
      refine wpAnyT_one (i := 10) (by kernel_rfl) rfl (fun K hK => ?_)
      go_simp
      refine (HCALL.out _ HW.out).mono ?_
      rintro e w5 ⟨rfl, hb5⟩
      have HN := Lib.hid (HW.out.trans (hb5.mono HW.out.size))
      clear hb5
      go_simp
      replace hS := HS.out w5 HN.out
      refine hK _ _ (Or.inr hS) ?_
      clear hK K
      try simp only [Array.getInternal_eq_getElem, List.getElem_toArray, List.getElem_cons_succ, List.getElem_cons_zero, Act.put, List.setIfInBounds_toArray, List.set_cons_zero, List.set_cons_succ]
      refine wpAnyT_take (i := 11) (v := ?_) rfl (by kernel_rfl) (by kernel_rfl) (by kernel_rfl) (fun _ _ _ h => h) (by kernel_rfl) (Or.inl ⟨by rfl, ?_⟩) hS ?_
      rotate_left
      · (intro w _; go_simp; try with_reducible rfl)
      try simp only [List.getElem_toArray, List.getElem_cons_succ, List.getElem_cons_zero, Act.put, List.setIfInBounds_toArray, List.set_cons_zero, List.set_cons_succ]
      refine wpAnyT_done (by kernel_rfl) ?_ _
      go_wp2_with fail
      go_roundg (kn + 1 - (j + 1))
      case measure => have := HG.out; have := HLT.out; omega
      case rel => exact ⟨j + 1, rfl, by have := HLT.out; omega, by go_num, HN⟩
    · have hi : ¬ (j : Int) < (kn : Int) := by omega
      clear hlt
      go_wp2_with fail
      go_ret
      exact ⟨rfl, HB.out.trans (HW.out.mono HB.out.size)⟩
end Go.Proofs.Ytbhcgjahlfpjoaa
