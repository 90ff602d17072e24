/- A tree on its own: the law's Copied: the walk. A tree without its groups: the law's bare: the walk. A tree turned: the reference's turned: the walk. -/
import Derived.Test.YtbhcgjahlfpjoaaQA
namespace Go.Proofs.Ytbhcgjahlfpjoaa
open Go.RowKit

theorem elRgT : ElemOK Try.prog 24 71 2 8 := .mk' (z := .agg #[.int .i32 0, .int .i32 0]) Try.underlying24 (by kernel_rfl) rfl (by decide)
/-- The tree of nothing. -/
def zT : Tr := ⟨0, [], 0, [], 0, 0, ⟨#[]⟩, 0, 0, false⟩
def zA : TA := ⟨none, 0, 0, none, 0, 0⟩
theorem zbox (W : World) : TBox (W.alloc (.cells #[.int .i64 0, .slice none 0 0, .int .i32 0, .slice none 0 0, .int .i64 0, .int .i64 0, .string ⟨#[]⟩, .int .i64 0, .int .i64 0, .bool false] 27)) W.heap.size zT zA := Blk.new _ _ _
set_option maxRecDepth 20000 in
set_option maxHeartbeats 8000000 in
theorem copied_any : ∀ (t : Tr) {ws w : World} {kA : Option Addr} {kn kc : Nat} {sA : Option Addr} {sn sc : Nat}, TIn ws t ⟨kA, kn, kc, sA, sn, sc⟩ → Below ws.heap.size ws w → t.parts ≤ 20000 → Calls Try.prog 31 #[.agg #[.int .i64 t.op, .slice kA kn kc, .int .i32 t.rune, .slice sA sn sc, .int .i64 t.at_, .int .i64 t.cap, .string t.name, .int .i64 t.mn, .int .i64 t.mx, .bool t.lzy]] w (BuiltB t ws.heap.size w) := by
  intro t
  induction t using Tr.ind with
  | h t ih =>
  intro ws w kA kn kc sA sn sc hT hbs hp
  have hws := hbs.size
  have hX := (TBox.newV w t kA kn kc sA sn sc).below (show Below _ _ ((w.alloc (.cells #[.int .i64 t.op, .slice kA kn kc, .int .i32 t.rune, .slice sA sn sc, .int .i64 t.at_, .int .i64 t.cap, .string t.name, .int .i64 t.mn, .int .i64 t.mx, .bool t.lzy] 27)).alloc (.cells #[.int .i64 0, .slice none 0 0, .int .i32 0, .slice none 0 0, .int .i64 0, .int .i64 0, .string ⟨#[]⟩, .int .i64 0, .int .i64 0, .bool false] 27)) from (Below.refl _ _).alloc (Nat.le_refl _) _)
  have hZ := zbox (w.alloc (.cells #[.int .i64 t.op, .slice kA kn kc, .int .i32 t.rune, .slice sA sn sc, .int .i64 t.at_, .int .i64 t.cap, .string t.name, .int .i64 t.mn, .int .i64 t.mx, .bool t.lzy] 27))
  rw [World.size_alloc] at hZ
  have hb : Below w.heap.size w ((w.alloc (.cells #[.int .i64 t.op, .slice kA kn kc, .int .i32 t.rune, .slice sA sn sc, .int .i64 t.at_, .int .i64 t.cap, .string t.name, .int .i64 t.mn, .int .i64 t.mx, .bool t.lzy] 27)).alloc (.cells #[.int .i64 0, .slice none 0 0, .int .i32 0, .slice none 0 0, .int .i64 0, .int .i64 0, .string ⟨#[]⟩, .int .i64 0, .int .i64 0, .bool false] 27)) := ((Below.refl _ _).alloc (Nat.le_refl _) _).alloc (by rw [World.size_alloc]; omega) _
  have hsz : ((w.alloc (.cells #[.int .i64 t.op, .slice kA kn kc, .int .i32 t.rune, .slice sA sn sc, .int .i64 t.at_, .int .i64 t.cap, .string t.name, .int .i64 t.mn, .int .i64 t.mx, .bool t.lzy] 27)).alloc (.cells #[.int .i64 0, .slice none 0 0, .int .i32 0, .slice none 0 0, .int .i64 0, .int .i64 0, .string ⟨#[]⟩, .int .i64 0, .int .i64 0, .bool false] 27)).heap.size = w.heap.size + 2 := by simp
  have hkp : ∀ k ∈ t.kids, k.parts ≤ 20000 := fun k hk => by have := Tr.partsL_le hk; rw [Tr.parts_eq] at hp; omega
  obtain ⟨ka, hK⟩ := hT.kidsV
  have hkn : kn ≤ 20000 := by have := Tr.len_le_partsL t.kids; rw [Tr.parts_eq] at hp; have := hK.len; omega
  have hsn : sn ≤ 20000 := by have := hT.set.len; dsimp only at this; rw [Tr.parts_eq] at hp; omega
  have hset := hT.set.below (hbs.trans (hb.mono hws))
  dsimp only at hset
  have h10 := hX.ten
  have k0 := h10.c0
  have k1 := h10.c1
  have k2 := h10.c2
  have k3 := h10.c3
  have k4 := h10.c4
  have k5 := h10.c5
  have k6 := h10.c6
  have k7 := h10.c7
  have k8 := h10.c8
  have k9 := h10.c9
  dsimp only at k1 k3
  have HT := Lib.hid hT
  have HS := Lib.hid hset
  have HK := Lib.hid hK
  have HB := Lib.hid hb
  have HBS := Lib.hid hbs
  have HX := Lib.hid hX
  have HZ := Lib.hid hZ
  have HP := Lib.hid hkp
  have IH := Lib.hid ih
  have HSZ := Lib.hid hsz
  clear hb hX hZ hkp ih hT hp h10 hK hbs hset hsz
  go_enter Try.func31, Try.ntmps31
  go_upto_region 1 with fail
  generalize (w.alloc (.cells #[.int .i64 t.op, .slice kA kn kc, .int .i32 t.rune, .slice sA sn sc, .int .i64 t.at_, .int .i64 t.cap, .string t.name, .int .i64 t.mn, .int .i64 t.mx, .bool t.lzy] 27)).alloc (.cells #[.int .i64 0, .slice none 0 0, .int .i32 0, .slice none 0 0, .int .i64 0, .int .i64 0, .string ⟨#[]⟩, .int .i64 0, .int .i64 0, .bool false] 27) = w0 at HB HX HZ HS HSZ k0 k1 k2 k3 k4 k5 k6 k7 k8 k9 ⊢

  go_upto_region 2 with fail
  clear k0 k1 k2 k4 k5 k6 k7 k8 k9
  have hmade := World.ownsRow_made (base := w0.heap.size) (size := 2) (e := 71) w0 #[] 0 (Nat.le_refl _) (Nat.zero_le _) rfl
  have hab0 := fun k hk => (hmade.lt k hk).1
  have hba : Below w0.heap.size w0 (w0.alloc (.cells #[] 71)) := (Below.refl _ _).alloc (Nat.le_refl _) _
  have hXa := HX.out.below hba
  have q3 := hXa.ten.c3
  dsimp only at q3
  clear k3
  have hR1 := (HS.out.below hba).rd
  have hn1 := HS.out.nil
  have hl1 : (rgCells t.set).length = sn * 2 := by rw [rgCells_length, HS.out.len]
  have h1e := rgCells_one t.set
  have hmx : 0 + sn ≤ maxLen := by unfold maxLen; omega
  have hbt : (0 + sn) * 8 ≤ 140737488355328 := by omega
  go_upto_region 3 with (at_builtin; refine wpList_app _ rfl _ _ 24 rfl w0.heap.size 71 elRgT _ _ _ rfl hmade 0 _ sA sn sc (rgCells t.set) rfl hn1 hl1 hR1 h1e hmx hbt (by simp) ?_; intro v1 V1 hv1 hg1 _ _; obtain ⟨uA, uc, rfl, hd1, hd1'⟩ := own_form hv1; have hXV := TBox.grown hXa hg1 (own_ne_blk hmade hXa (by decide)); have c3 := hXV.ten.c3; have f3 := Blk.frozen hXV 3; dsimp only at c3)
  simp only [Nat.zero_add, List.nil_append] at hv1 hd1
  have hX1 := hXV.sets uA sn uc
  have c1 := hX1.ten.c1
  have f1 := Blk.frozen hX1 1
  dsimp only at c1
  clear c3 f3
  go_upto_region 4 with fail
  have hX2 := hX1.kids none 0 0
  have hZa := HZ.out.below hba
  have hZ2 := ((TBox.grown hZa hg1 (own_ne_blk hmade hZa (by decide))).far (p := ⟨w.heap.size, 3, none⟩) (by simp) (.slice uA sn uc)).far (p := ⟨w.heap.size, 1, none⟩) (by simp) (.slice none 0 0)
  have hB2 : Below w.heap.size w ((V1.setCell ⟨w.heap.size, 3, none⟩ (.slice uA sn uc)).setCell ⟨w.heap.size, 1, none⟩ (.slice none 0 0)) := (((HB.out.trans (hba.mono HB.out.size)).grown hg1 (by have := HB.out.size; simp; omega) (fun k hk => by have := hab0 k hk; have := HSZ.out; omega)).setCell (Nat.le_refl _) _).setCell (Nat.le_refl _) _
  have hset1 : TOk V1 (fun b => b < ws.heap.size ∨ w0.heap.size ≤ b) (leafS t.set) ⟨none, 0, 0, uA, sn, uc⟩ := TOk.ofSet (RgIn.of_own hv1 HS.out.len HS.out.fits) (fun _ q he => Or.inr (own_lt hv1 (k := q.block) (by rw [he]; rfl)).1) (by omega)
  have hQ2 : w0.heap.size ≤ ((V1.setCell ⟨w.heap.size, 3, none⟩ (.slice uA sn uc)).setCell ⟨w.heap.size, 1, none⟩ (.slice none 0 0)).heap.size := by rw [World.size_setCell, World.size_setCell]; have := hg1.size; rw [World.size_alloc] at this; omega
  have hK2 := ((KSt.nil hset1).far (p := ⟨w.heap.size, 3, none⟩) hws (by have := HSZ.out; show w.heap.size < _; omega) (.slice uA sn uc)).far (p := ⟨w.heap.size, 1, none⟩) hws (by have := HSZ.out; show w.heap.size < _; omega) (.slice none 0 0)
  have HB0 := Lib.hid HB.out.size
  clear c1 f1 hX1 hZa hmade hab0 hba hXa q3 hR1 hn1 hl1 h1e hmx hbt hg1 hv1 hd1 hd1' hXV hset1 HS HX HZ HB
  generalize (V1.setCell ⟨w.heap.size, 3, none⟩ (.slice uA sn uc)).setCell ⟨w.heap.size, 1, none⟩ (.slice none 0 0) = W0 at hX2 hZ2 hB2 hK2 hQ2 ⊢
  have HX := Lib.hid hX2
  have HZ := Lib.hid hZ2
  have HB := Lib.hid hB2
  have HK2 := Lib.hid hK2
  have HQ := Lib.hid hQ2
  clear hX2 hZ2 hB2 hK2 hQ2
  go_upto_region 5 with fail
  go_loopg [4] (kn + 1) (fun q i W => ∃ (j : Nat) (ys : List (Tr × TA)) (B : Option Addr) (d : Nat), q = kn + 1 - j ∧ j ≤ kn ∧ i = .int .i64 (j : Int) ∧ Hid (ys.map (·.1) = t.kids.take j) ∧ Hid (KSt ws.heap.size w0.heap.size W ys (.slice B ys.length d) t.set uA sn uc) ∧ Hid (TBox W w.heap.size t ⟨B, ys.length, d, uA, sn, uc⟩) ∧ Hid (TBox W (w.heap.size + 1) zT zA) ∧ Hid (Below w.heap.size w W) ∧ Hid (w0.heap.size ≤ W.heap.size))
  case atStart => exact ⟨0, [], none, 0, rfl, Nat.zero_le _, rfl, Lib.hid rfl, HK2, HX, HZ, HB, HQ⟩
  case round =>
    clear HX HZ HB HK2 HQ
    obtain ⟨j, ys, B, d, hgk, hj, rfl, HYS, HKS, HX, HZ, HW, HQ⟩ := hrel
    have HG := Lib.hid hgk
    have HJ := Lib.hid hj
    have hyl : ys.length = j := by
      have h1 := congrArg List.length HYS.out
      rw [List.length_map, List.length_take, HK.out.len] at h1
      omega
    have HYL := Lib.hid hyl
    clear hgk hj hyl
    by_cases hlt : j < kn
    · obtain ⟨b, o, k, x, rfl, hb, hk, hx, hc⟩ := HK.out.at hlt
      have hi : (j : Int) < (kn : Int) := by omega
      have HLT := Lib.hid hlt
      have HKK := Lib.hid hk
      have HX5 := Lib.hid hx
      have HC := Lib.hid hc
      have HBL := Lib.hid hb
      have hSall : ∀ (V : World), Below w.heap.size w V → TBox V w.heap.size t ⟨B, ys.length, d, uA, sn, uc⟩ → V.cell? ⟨w.heap.size, 1, none⟩ = some (.slice B ys.length d) ∧ V.cell? ⟨b, o + j * 10, none⟩ = some (.int .i64 k.op) ∧ V.cell? ⟨b, o + j * 10 + 1, none⟩ = some (.slice x.kA x.kn x.kc) ∧ V.cell? ⟨b, o + j * 10 + 2, none⟩ = some (.int .i32 k.rune) ∧ V.cell? ⟨b, o + j * 10 + 3, none⟩ = some (.slice x.sA x.sn x.sc) ∧ V.cell? ⟨b, o + j * 10 + 4, none⟩ = some (.int .i64 k.at_) ∧ V.cell? ⟨b, o + j * 10 + 5, none⟩ = some (.int .i64 k.cap) ∧ V.cell? ⟨b, o + j * 10 + 6, none⟩ = some (.string k.name) ∧ V.cell? ⟨b, o + j * 10 + 7, none⟩ = some (.int .i64 k.mn) ∧ V.cell? ⟨b, o + j * 10 + 8, none⟩ = some (.int .i64 k.mx) ∧ V.cell? ⟨b, o + j * 10 + 9, none⟩ = some (.bool k.lzy) := fun V hV hBx => by
        have a1 := hBx.ten.c1
        dsimp only at a1
        have h10 := HC.out V (.of_below (HBS.out.trans (hV.mono hws)) (Nat.le_refl _))
        exact ⟨a1, h10.c0, h10.c1, h10.c2, h10.c3, h10.c4, h10.c5, h10.c6, h10.c7, h10.c8, h10.c9⟩
      have HS := Lib.hid hSall
      clear hx hk hb hlt hc hSall
      go_upto_region 7 with fail
      replace HW := Lib.hid HW.out.drew
      replace HKS := Lib.hid (HKS.out.below (Below.refl _ wr).drew)
      replace HX := Lib.hid (HX.out.below (Below.refl _ wr).drew)
      replace HZ := Lib.hid (HZ.out.below (Below.refl _ wr).drew)
      replace HQ : Hid (w0.heap.size ≤ wr.drew.heap.size) := HQ
      have hS := HS.out _ HW.out HX.out
      refine wp_region_T (S := fun w' => w'.cell? ⟨w.heap.size, 1, none⟩ = some (.slice B ys.length d) ∧ w'.cell? ⟨b, o + j * 10, none⟩ = some (.int .i64 k.op) ∧ w'.cell? ⟨b, o + j * 10 + 1, none⟩ = some (.slice x.kA x.kn x.kc) ∧ w'.cell? ⟨b, o + j * 10 + 2, none⟩ = some (.int .i32 k.rune) ∧ w'.cell? ⟨b, o + j * 10 + 3, none⟩ = some (.slice x.sA x.sn x.sc) ∧ w'.cell? ⟨b, o + j * 10 + 4, none⟩ = some (.int .i64 k.at_) ∧ w'.cell? ⟨b, o + j * 10 + 5, none⟩ = some (.int .i64 k.cap) ∧ w'.cell? ⟨b, o + j * 10 + 6, none⟩ = some (.string k.name) ∧ w'.cell? ⟨b, o + j * 10 + 7, none⟩ = some (.int .i64 k.mn) ∧ w'.cell? ⟨b, o + j * 10 + 8, none⟩ = some (.int .i64 k.mx) ∧ w'.cell? ⟨b, o + j * 10 + 9, none⟩ = some (.bool k.lzy)) (t := 10) (by kernel_rfl) ?_
      generalize wr.drew = W1 at HW HKS HX HZ HQ hS ⊢
      refine wpAnyT_take (i := 0) (v := ?_) rfl (by kernel_rfl) (by kernel_rfl) (by kernel_rfl) (fun _ _ _ h => h) (by kernel_rfl) (Or.inl ⟨by rfl, ?_⟩) hS ?_
      rotate_left
      · (intro w _; go_simp; try with_reducible rfl)
      try simp only [List.getElem_toArray, List.getElem_cons_zero, Act.put, List.setIfInBounds_toArray, List.set_cons_zero, List.set_cons_succ]
      refine wpAnyT_take (i := 1) (v := ?_) rfl (by kernel_rfl) (by kernel_rfl) (by kernel_rfl) (fun _ _ _ h => h) (by kernel_rfl) (Or.inl ⟨by rfl, ?_⟩) hS ?_
      rotate_left
      · (intro w hS; obtain ⟨s0, s1, s2, s3, s4, s5, s6, s7, s8, s9, s10⟩ := hS; go_simp; try with_reducible rfl)
      try simp only [List.getElem_toArray, List.getElem_cons_succ, List.getElem_cons_zero, Act.put, List.setIfInBounds_toArray, List.set_cons_zero, List.set_cons_succ]
      refine wpAnyT_take (i := 2) (v := ?_) rfl (by kernel_rfl) (by kernel_rfl) (by kernel_rfl) (fun _ _ _ h => h) (by kernel_rfl) (Or.inl ⟨by rfl, ?_⟩) hS ?_
      rotate_left
      · (intro w _; go_simp; try with_reducible rfl)
      try simp only [List.getElem_toArray, List.getElem_cons_succ, List.getElem_cons_zero, Act.put, List.setIfInBounds_toArray, List.set_cons_zero, List.set_cons_succ]
      refine wpAnyT_take (i := 3) (v := ?_) rfl (by kernel_rfl) (by kernel_rfl) (by kernel_rfl) (fun _ _ _ h => h) (by kernel_rfl) (Or.inl ⟨by rfl, ?_⟩) hS ?_
      rotate_left
      · (intro w _; go_simp; try with_reducible rfl)
      try simp only [List.getElem_toArray, List.getElem_cons_succ, List.getElem_cons_zero, Act.put, List.setIfInBounds_toArray, List.set_cons_zero, List.set_cons_succ]
      refine wpAnyT_take (i := 4) (v := ?_) rfl (by kernel_rfl) (by kernel_rfl) (by kernel_rfl) (fun _ _ _ h => h) (by kernel_rfl) (Or.inl ⟨by rfl, ?_⟩) hS ?_
      rotate_left
      · (intro w _; go_simp; try with_reducible rfl)
      try simp only [List.getElem_toArray, List.getElem_cons_succ, List.getElem_cons_zero, Act.put, List.setIfInBounds_toArray, List.set_cons_zero, List.set_cons_succ]
      refine wpAnyT_take (i := 5) (v := ?_) rfl (by kernel_rfl) (by kernel_rfl) (by kernel_rfl) (fun _ _ _ h => h) (by kernel_rfl) (Or.inl ⟨by rfl, ?_⟩) hS ?_
      rotate_left
      · (intro w hS; obtain ⟨s0, s1, s2, s3, s4, s5, s6, s7, s8, s9, s10⟩ := hS; go_simp; try with_reducible rfl)
      try simp only [List.getElem_toArray, List.getElem_cons_succ, List.getElem_cons_zero, Act.put, List.setIfInBounds_toArray, List.set_cons_zero, List.set_cons_succ]
      refine wpAnyT_one (i := 6) (by kernel_rfl) rfl (fun K hK => ?_)
      go_simp
      refine (IH.out k (List.mem_of_getElem? HKK.out) HX5.out (HBS.out.trans (HW.out.mono hws)) (HP.out k (List.mem_of_getElem? HKK.out))).mono ?_
      rintro e W5 ⟨⟨cA, cn, cc, eA, en, ec⟩, rfl, hz, hb5⟩
      have hz2 := HKS.out.kid (z := (k, ⟨cA, cn, cc, eA, en, ec⟩)) (by have := HSZ.out; omega) hz HQ.out
      replace HKS := Lib.hid (HKS.out.below hb5)
      replace HX := Lib.hid (HX.out.below hb5)
      replace HZ := Lib.hid (HZ.out.below hb5)
      replace HW := Lib.hid (HW.out.trans (hb5.mono HW.out.size))
      replace HQ := Lib.hid (Nat.le_trans HQ.out hb5.size)
      have HZK := Lib.hid hz2
      clear hz hz2 hb5
      simp only [Tr.cells]
      go_simp
      replace hS := HS.out _ HW.out HX.out
      refine hK _ _ (Or.inr hS) ?_
      clear hK K
      try simp only [Array.getInternal_eq_getElem, List.getElem_toArray, List.getElem_cons_succ, List.getElem_cons_zero, Act.put, List.setIfInBounds_toArray, List.set_cons_zero, List.set_cons_succ]
      refine wpAnyT_one (i := 7) (by kernel_rfl) rfl (fun K hK => ?_)
      go_simp
      replace hS := HS.out (W5.alloc (.cells #[.int .i64 k.op, .slice cA cn cc, .int .i32 k.rune, .slice eA en ec, .int .i64 k.at_, .int .i64 k.cap, .string k.name, .int .i64 k.mn, .int .i64 k.mx, .bool k.lzy] 27)) (HW.out.alloc HW.out.size _) (HX.out.below ((Below.refl _ _).alloc (Nat.le_refl _) _))
      refine hK _ _ (Or.inr hS) ?_
      clear hK K
      try simp only [Array.getInternal_eq_getElem, List.getElem_toArray, List.getElem_cons_succ, List.getElem_cons_zero, Act.put, List.setIfInBounds_toArray, List.set_cons_zero, List.set_cons_succ]
      refine wpAnyT_one (i := 8) (by kernel_rfl) rfl (fun K hK => ?_)
      simp only [Region.wanted]
      have hown := HKS.out.row.own
      have hq5 := HQ.out
      have hne : (Value.slice B ys.length d).ownBlock ≠ some w.heap.size := fun e => by have := (own_lt hown e).1; have := HSZ.out; omega
      have hne1 : (Value.slice B ys.length d).ownBlock ≠ some (w.heap.size + 1) := fun e => by have := (own_lt hown e).1; have := HSZ.out; omega
      have hyl2 : ys.length ≤ 20000 := by have := HYL.out; have := HLT.out; omega
      refine wp_app _ (.tmp 20) (.tmp 26) 23 (by rfl) w0.heap.size 27 elTr (.slice B ys.length d) ys.length (tcells ys) (by rfl) (hown.alloc _) 0 (W5.heap.size + 1) (some ⟨W5.heap.size, 0, none⟩) 1 1 (Tr.cells k ⟨cA, cn, cc, eA, en, ec⟩) (by rfl) (fun h => by cases h) rfl (Rd.new W5 _ _ _ (Nat.zero_le _) (by omega)) (fun u hu => tcells_one [(k, ⟨cA, cn, cc, eA, en, ec⟩)] u (by simpa [tcells] using hu)) (by unfold maxLen; omega) (by omega) (by simp; omega) ?_
      intro v2 W2 hv2 hg2 hat2 _
      obtain ⟨B2, d2, rfl, hd2, hd2'⟩ := own_form hv2
      have ha5 : Below W5.heap.size W5 (W5.alloc (.cells #[.int .i64 k.op, .slice cA cn cc, .int .i32 k.rune, .slice eA en ec, .int .i64 k.at_, .int .i64 k.cap, .string k.name, .int .i64 k.mn, .int .i64 k.mx, .bool k.lzy] 27)) := (Below.refl _ _).alloc (Nat.le_refl _) _
      have hX2 := (HX.out.below ha5).grown hg2 hne
      have hZ2 := (HZ.out.below ha5).grown hg2 hne1
      have hK2 := HKS.out.snoc HZK.out hv2 hg2 hat2
      have hW2 : Below w.heap.size w W2 := (HW.out.trans (ha5.mono HW.out.size)).grown hg2 (by have := HW.out.size; simp; omega) (fun q hq => by have := (own_lt hown hq).1; have := HSZ.out; omega)
      have hQ2 : w0.heap.size ≤ W2.heap.size := by have := hg2.size; rw [World.size_alloc] at this; omega
      have hS3 := HS.out W2 hW2 hX2
      have g1 := hX2.ten.c1
      have f1 := Blk.frozen hX2 1
      dsimp only at g1
      replace hS := hS3
      refine hK _ _ (Or.inr hS) ?_
      clear hK K
      try simp only [List.getElem_toArray, List.getElem_cons_succ, List.getElem_cons_zero, Act.put, List.setIfInBounds_toArray, List.set_cons_zero, List.set_cons_succ]
      refine wpAnyT_take (i := 9) (v := ?_) rfl (by kernel_rfl) (by kernel_rfl) (by kernel_rfl) (fun _ _ _ h => h) (by kernel_rfl) (Or.inl ⟨by rfl, ?_⟩) hS ?_
      rotate_left
      · (intro w _; go_simp; try with_reducible rfl)
      try simp only [List.getElem_toArray, List.getElem_cons_succ, List.getElem_cons_zero, Act.put, List.setIfInBounds_toArray, List.set_cons_zero, List.set_cons_succ]
      refine wpAnyT_one (i := 10) (by kernel_rfl) rfl (fun K hK => ?_)
      go_simp
      have hlen : (ys ++ [(k, (⟨cA, cn, cc, eA, en, ec⟩ : TA))]).length = ys.length + 1 := by simp
      have HX3 : Hid (TBox (W2.setCell ⟨w.heap.size, 1, none⟩ (.slice B2 (ys.length + 1) d2)) w.heap.size t ⟨B2, (ys ++ [(k, (⟨cA, cn, cc, eA, en, ec⟩ : TA))]).length, d2, uA, sn, uc⟩) := Lib.hid (by rw [hlen]; exact hX2.kids B2 _ d2)
      have HZ3 : Hid (TBox (W2.setCell ⟨w.heap.size, 1, none⟩ (.slice B2 (ys.length + 1) d2)) (w.heap.size + 1) zT zA) := Lib.hid (hZ2.far (by simp) _)
      have HK3 : Hid (KSt ws.heap.size w0.heap.size (W2.setCell ⟨w.heap.size, 1, none⟩ (.slice B2 (ys.length + 1) d2)) (ys ++ [(k, (⟨cA, cn, cc, eA, en, ec⟩ : TA))]) (.slice B2 (ys ++ [(k, (⟨cA, cn, cc, eA, en, ec⟩ : TA))]).length d2) t.set uA sn uc) := Lib.hid (by rw [hlen]; exact hK2.far hws (by have := HSZ.out; show w.heap.size < _; omega) _)
      have HW3 : Hid (Below w.heap.size w (W2.setCell ⟨w.heap.size, 1, none⟩ (.slice B2 (ys.length + 1) d2))) := Lib.hid (hW2.setCell (Nat.le_refl _) _)
      have HQ3 : Hid (w0.heap.size ≤ (W2.setCell ⟨w.heap.size, 1, none⟩ (.slice B2 (ys.length + 1) d2)).heap.size) := Lib.hid (by rw [World.size_setCell]; exact hQ2)
      have HY3 : Hid ((ys ++ [(k, (⟨cA, cn, cc, eA, en, ec⟩ : TA))]).map (·.1) = t.kids.take (j + 1)) := Lib.hid (by rw [List.map_append, HYS.out, take_snoc HKK.out]; rfl)
      clear hX2 hZ2 hK2 hW2 hQ2 hS3 g1 f1 ha5 hv2 hg2 hat2 hown hq5 hne hne1 hyl2 hlen hd2 hd2'
      refine hK _ _ (Or.inl rfl) ?_
      clear hK K
      try simp only [Array.getInternal_eq_getElem, List.getElem_toArray, List.getElem_cons_succ, List.getElem_cons_zero, Act.put, List.setIfInBounds_toArray, List.set_cons_zero, List.set_cons_succ]
      refine wpAnyT_done (by kernel_rfl) ?_ _
      clear hS HX HZ HKS HW HQ HYS
      go_wp2_with fail
      go_roundg (kn + 1 - (j + 1))
      case measure => have := HG.out; have := HLT.out; omega
      case rel => exact ⟨j + 1, _, B2, d2, rfl, by have := HLT.out; omega, by go_num, HY3, HK3, HX3, HZ3, HW3, HQ3⟩
    · have hi : ¬ (j : Int) < (kn : Int) := by omega
      have hall : t.kids.take j = t.kids := by rw [show j = t.kids.length by have := HK.out.len; have := HJ.out; omega, List.take_length]
      rw [hall] at HYS
      have h10 := HX.out.ten
      have k0 := h10.c0
      have k1 := h10.c1
      have k2 := h10.c2
      have k3 := h10.c3
      have k4 := h10.c4
      have k5 := h10.c5
      have k6 := h10.c6
      have k7 := h10.c7
      have k8 := h10.c8
      have k9 := h10.c9
      have z10 := HZ.out.ten
      have z0 := z10.c0
      have z1 := z10.c1
      have z2 := z10.c2
      have z3 := z10.c3
      have z4 := z10.c4
      have z5 := z10.c5
      have z6 := z10.c6
      have z7 := z10.c7
      have z8 := z10.c8
      have z9 := z10.c9
      have f0 := Blk.frozen HZ.out 0
      have f1 := Blk.frozen HZ.out 1
      have f2 := Blk.frozen HZ.out 2
      have f3 := Blk.frozen HZ.out 3
      have f4 := Blk.frozen HZ.out 4
      have f5 := Blk.frozen HZ.out 5
      have f6 := Blk.frozen HZ.out 6
      have f7 := Blk.frozen HZ.out 7
      have f8 := Blk.frozen HZ.out 8
      have f9 := Blk.frozen HZ.out 9
      dsimp only [zT, zA] at k1 k3 z0 z1 z2 z3 z4 z5 z6 z7 z8 z9
      clear h10 z10 hlt hall
      go_wp2_with fail
      have hB1 : (B = none → ys.length = 0) := fun e => by
        rcases HKS.out.row.own.2 with ⟨h0, _⟩ | ⟨g, cap, cur, h0, _⟩
        · injection h0
        · rw [e] at h0; injection h0 with h0; cases h0
      obtain ⟨B', d', hf', hd1, hd2⟩ := own_form HKS.out.row.own
      injection hf' with e1 _ e2
      subst e1
      subst e2
      have hdone := (HKS.out.put (t := t) (a := ⟨B, ys.length, d, uA, sn, uc⟩) (g := w.heap.size + 1) (by omega) (by have := HSZ.out; omega)).done (op := t.op) (rune := t.rune) (at_ := t.at_) (cap := t.cap) (mn := t.mn) (mx := t.mx) (name := t.name) (lzy := t.lzy) (wsz := w.heap.size) rfl hd1 hd2 hB1 HT.out.name HB0.out
      rw [HYS.out, t.eta] at hdone
      exact tree_ret (t := t) (a := ⟨B, ys.length, d, uA, sn, uc⟩) HZ.out rfl rfl ⟨_, rfl, hdone, put10_below HW.out (by omega)⟩
end Go.Proofs.Ytbhcgjahlfpjoaa
namespace Go.Proofs.Ytbhcgjahlfpjoaa
open Go.RowKit

set_option maxRecDepth 20000 in
set_option maxHeartbeats 8000000 in
theorem bareT_any : ∀ (t : Tr) {ws w : World} {kA : Option Addr} {kn kc : Nat} {sA : Option Addr} {sn sc : Nat}, TIn ws t ⟨kA, kn, kc, sA, sn, sc⟩ → Below ws.heap.size ws w → t.parts ≤ 20000 → OneP t → Calls Try.prog 35 #[.agg #[.int .i64 t.op, .slice kA kn kc, .int .i32 t.rune, .slice sA sn sc, .int .i64 t.at_, .int .i64 t.cap, .string t.name, .int .i64 t.mn, .int .i64 t.mx, .bool t.lzy]] w (BuiltB (t.bare) ws.heap.size w) := by
  intro t
  induction t using Tr.ind with
  | h t ih =>
  intro ws w kA kn kc sA sn sc hT hbs hp h1
  have hws := hbs.size
  have hX := (TBox.newV w t kA kn kc sA sn sc).below (show Below _ _ ((w.alloc (.cells #[.int .i64 t.op, .slice kA kn kc, .int .i32 t.rune, .slice sA sn sc, .int .i64 t.at_, .int .i64 t.cap, .string t.name, .int .i64 t.mn, .int .i64 t.mx, .bool t.lzy] 27)).alloc (.cells #[.int .i64 0, .slice none 0 0, .int .i32 0, .slice none 0 0, .int .i64 0, .int .i64 0, .string ⟨#[]⟩, .int .i64 0, .int .i64 0, .bool false] 27)) from (Below.refl _ _).alloc (Nat.le_refl _) _)
  have hZ := zbox (w.alloc (.cells #[.int .i64 t.op, .slice kA kn kc, .int .i32 t.rune, .slice sA sn sc, .int .i64 t.at_, .int .i64 t.cap, .string t.name, .int .i64 t.mn, .int .i64 t.mx, .bool t.lzy] 27))
  rw [World.size_alloc] at hZ
  have hb : Below w.heap.size w ((w.alloc (.cells #[.int .i64 t.op, .slice kA kn kc, .int .i32 t.rune, .slice sA sn sc, .int .i64 t.at_, .int .i64 t.cap, .string t.name, .int .i64 t.mn, .int .i64 t.mx, .bool t.lzy] 27)).alloc (.cells #[.int .i64 0, .slice none 0 0, .int .i32 0, .slice none 0 0, .int .i64 0, .int .i64 0, .string ⟨#[]⟩, .int .i64 0, .int .i64 0, .bool false] 27)) := ((Below.refl _ _).alloc (Nat.le_refl _) _).alloc (by rw [World.size_alloc]; omega) _
  have hsz : ((w.alloc (.cells #[.int .i64 t.op, .slice kA kn kc, .int .i32 t.rune, .slice sA sn sc, .int .i64 t.at_, .int .i64 t.cap, .string t.name, .int .i64 t.mn, .int .i64 t.mx, .bool t.lzy] 27)).alloc (.cells #[.int .i64 0, .slice none 0 0, .int .i32 0, .slice none 0 0, .int .i64 0, .int .i64 0, .string ⟨#[]⟩, .int .i64 0, .int .i64 0, .bool false] 27)).heap.size = w.heap.size + 2 := by simp
  have hkp : ∀ k ∈ t.kids, k.parts ≤ 20000 := fun k hk => by have := Tr.partsL_le hk; rw [Tr.parts_eq] at hp; omega
  obtain ⟨ka, hK⟩ := hT.kidsV
  have hkn : kn ≤ 20000 := by have := Tr.len_le_partsL t.kids; rw [Tr.parts_eq] at hp; have := hK.len; omega
  have h10 := hX.ten
  have k0 := h10.c0
  have k1 := h10.c1
  have k2 := h10.c2
  have k3 := h10.c3
  have k4 := h10.c4
  have k5 := h10.c5
  have k6 := h10.c6
  have k7 := h10.c7
  have k8 := h10.c8
  have k9 := h10.c9
  dsimp only at k1 k3
  have HT := Lib.hid hT
  have HK := Lib.hid hK
  have HB := Lib.hid hb
  have HBS := Lib.hid hbs
  have HX := Lib.hid hX
  have HZ := Lib.hid hZ
  have HP := Lib.hid hkp
  have IH := Lib.hid ih
  have HSZ := Lib.hid hsz
  have H1 := Lib.hid h1
  clear hb hX hZ hkp ih hT hp h10 hK hbs hsz h1
  go_enter Try.func35, Try.ntmps35
  go_upto_region 1 with fail
  generalize (w.alloc (.cells #[.int .i64 t.op, .slice kA kn kc, .int .i32 t.rune, .slice sA sn sc, .int .i64 t.at_, .int .i64 t.cap, .string t.name, .int .i64 t.mn, .int .i64 t.mx, .bool t.lzy] 27)).alloc (.cells #[.int .i64 0, .slice none 0 0, .int .i32 0, .slice none 0 0, .int .i64 0, .int .i64 0, .string ⟨#[]⟩, .int .i64 0, .int .i64 0, .bool false] 27) = w0 at HB HX HZ HSZ k0 k1 k2 k3 k4 k5 k6 k7 k8 k9 ⊢
  by_cases h6 : t.op = 6
  · have d0 : (t.op == 6) = true := beq_iff_eq.2 h6
    obtain ⟨k, hkids⟩ := H1.out.self h6
    have hres : t.bare = k.bare := by rw [Tr.bare_eq, if_pos h6, hkids]; rfl
    obtain ⟨b, o, k', x, rfl, hb, hk, hx, hc⟩ := HK.out.at (i := 0) (by have := HK.out.len; rw [hkids] at this; simp at this; omega)
    obtain rfl : k = k' := by rw [hkids] at hk; simpa using hk
    have hkm : k ∈ t.kids := by rw [hkids]; simp
    have h0n : (0 : Int) < (kn : Int) := by have := HK.out.len; rw [hkids] at this; simp at this; omega
    have h10 := hc w0 (.of_below (HBS.out.trans (HB.out.mono hws)) (Nat.le_refl _))
    simp only [Nat.zero_mul, Nat.add_zero] at h10
    have q0 := h10.c0
    have q1 := h10.c1
    have q2 := h10.c2
    have q3 := h10.c3
    have q4 := h10.c4
    have q5 := h10.c5
    have q6 := h10.c6
    have q7 := h10.c7
    have q8 := h10.c8
    have q9 := h10.c9
    have hcall := IH.out k hkm hx (HBS.out.trans (HB.out.mono hws)) (HP.out k hkm) (H1.out.kid hkm)
    have HRES := Lib.hid hres
    clear h10 hc hx hk hb hkids hkm h6 hres
    go_wp2_with fail
    refine hcall.mono ?_
    rintro e W5 ⟨⟨cA, cn, cc, eA, en, ec⟩, rfl, hz, hb5⟩
    have HZ5 := Lib.hid (HZ.out.below hb5)
    have HTK := Lib.hid hz
    have HB5 := Lib.hid (HB.out.trans (hb5.mono HB.out.size))
    clear hcall hb5 hz k0 k1 k2 k3 k4 k5 k6 k7 k8 k9 q0 q1 q2 q3 q4 q5 q6 q7 q8 q9
    have z10 := HZ5.out.ten
    have z0 := z10.c0
    have z1 := z10.c1
    have z2 := z10.c2
    have z3 := z10.c3
    have z4 := z10.c4
    have z5 := z10.c5
    have z6 := z10.c6
    have z7 := z10.c7
    have z8 := z10.c8
    have z9 := z10.c9
    have f0 := Blk.frozen HZ5.out 0
    have f1 := Blk.frozen HZ5.out 1
    have f2 := Blk.frozen HZ5.out 2
    have f3 := Blk.frozen HZ5.out 3
    have f4 := Blk.frozen HZ5.out 4
    have f5 := Blk.frozen HZ5.out 5
    have f6 := Blk.frozen HZ5.out 6
    have f7 := Blk.frozen HZ5.out 7
    have f8 := Blk.frozen HZ5.out 8
    have f9 := Blk.frozen HZ5.out 9
    dsimp only [zT, zA] at z0 z1 z2 z3 z4 z5 z6 z7 z8 z9
    clear z10
    simp only [Tr.cells]
    go_wp2_with fail
    have hfin := (HTK.out.put (g := w.heap.size + 1) (t := k.bare) (a := ⟨cA, cn, cc, eA, en, ec⟩) (by have := HSZ.out; omega)).mono (ok' := fun b => b < ws.heap.size ∨ w.heap.size ≤ b) fun b _ hb => by have := HSZ.out; omega
    rw [← HRES.out] at hfin
    refine tree_ret (t := k.bare) (a := ⟨cA, cn, cc, eA, en, ec⟩) HZ5.out rfl rfl ?_
    rw [← HRES.out]
    exact ⟨_, rfl, hfin, put10_below HB5.out (by omega)⟩
  have d0 : (t.op == 6) = false := beq_eq_false_iff_ne.2 h6
  have hres : t.bare = ⟨t.op, t.kids.map Tr.bare, t.rune, t.set, t.at_, t.cap, t.name, t.mn, t.mx, t.lzy⟩ := by rw [Tr.bare_eq, if_neg h6]
  have HRES := Lib.hid hres
  clear h6 hres
  have g1 := Blk.frozen HX.out 1
  clear k2 k3 k4 k5 k6 k7 k8 k9
  go_upto_region 5 with fail
  have hX2 := HX.out.kids none 0 0
  have hZ2 := HZ.out.far (p := ⟨w.heap.size, 1, none⟩) (by simp) (.slice none 0 0)
  have hB2 := HB.out.setCell (p := ⟨w.heap.size, 1, none⟩) (Nat.le_refl _) (.slice none 0 0)
  have hQ2 : w0.heap.size ≤ (w0.setCell ⟨w.heap.size, 1, none⟩ (.slice none 0 0)).heap.size := by rw [World.size_setCell]; omega
  have hbw := HBS.out.trans (HB.out.mono hws)
  have hset1 : TOk w0 (fun b => b < ws.heap.size ∨ w0.heap.size ≤ b) (leafS t.set) ⟨none, 0, 0, sA, sn, sc⟩ := (HT.out.tok.leaf.keep (fun b _ hlt => hbw.block b hlt) hbw.size).mono fun b _ hb => Or.inl hb
  have hK2 := (KSt.nil hset1).far (p := ⟨w.heap.size, 1, none⟩) hws (by have := HSZ.out; show w.heap.size < _; omega) (.slice none 0 0)
  have HB0 := Lib.hid HB.out.size
  clear HX HZ HB hset1 hbw g1 k0 k1
  generalize w0.setCell ⟨w.heap.size, 1, none⟩ (.slice none 0 0) = W0 at hX2 hZ2 hB2 hK2 hQ2 ⊢
  have HX := Lib.hid hX2
  have HZ := Lib.hid hZ2
  have HB := Lib.hid hB2
  have HK2 := Lib.hid hK2
  have HQ := Lib.hid hQ2
  clear hX2 hZ2 hB2 hK2 hQ2
  go_upto_region 6 with fail
  go_loopg [4] (kn + 1) (fun q i W => ∃ (j : Nat) (ys : List (Tr × TA)) (B : Option Addr) (d : Nat), q = kn + 1 - j ∧ j ≤ kn ∧ i = .int .i64 (j : Int) ∧ Hid (ys.map (·.1) = (t.kids.take j).map Tr.bare) ∧ Hid (KSt ws.heap.size w0.heap.size W ys (.slice B ys.length d) t.set sA sn sc) ∧ Hid (TBox W w.heap.size t ⟨B, ys.length, d, sA, sn, sc⟩) ∧ Hid (TBox W (w.heap.size + 1) zT zA) ∧ Hid (Below w.heap.size w W) ∧ Hid (w0.heap.size ≤ W.heap.size))
  case atStart => exact ⟨0, [], none, 0, rfl, Nat.zero_le _, rfl, Lib.hid rfl, HK2, HX, HZ, HB, HQ⟩
  case round =>
    clear HX HZ HB HK2 HQ
    obtain ⟨j, ys, B, d, hgk, hj, rfl, HYS, HKS, HX, HZ, HW, HQ⟩ := hrel
    have HG := Lib.hid hgk
    have HJ := Lib.hid hj
    have hyl : ys.length = j := by
      have h1 := congrArg List.length HYS.out
      rw [List.length_map, List.length_map, List.length_take, HK.out.len] at h1
      omega
    have HYL := Lib.hid hyl
    clear hgk hj hyl
    by_cases hlt : j < kn
    · obtain ⟨b, o, k, x, rfl, hb, hk, hx, hc⟩ := HK.out.at hlt
      have hi : (j : Int) < (kn : Int) := by omega
      have HLT := Lib.hid hlt
      have HKK := Lib.hid hk
      have HX5 := Lib.hid hx
      have HC := Lib.hid hc
      have hSall : ∀ (V : World), Below w.heap.size w V → TBox V w.heap.size t ⟨B, ys.length, d, sA, sn, sc⟩ → V.cell? ⟨w.heap.size, 1, none⟩ = some (.slice B ys.length d) ∧ V.cell? ⟨b, o + j * 10, none⟩ = some (.int .i64 k.op) ∧ V.cell? ⟨b, o + j * 10 + 1, none⟩ = some (.slice x.kA x.kn x.kc) ∧ V.cell? ⟨b, o + j * 10 + 2, none⟩ = some (.int .i32 k.rune) ∧ V.cell? ⟨b, o + j * 10 + 3, none⟩ = some (.slice x.sA x.sn x.sc) ∧ V.cell? ⟨b, o + j * 10 + 4, none⟩ = some (.int .i64 k.at_) ∧ V.cell? ⟨b, o + j * 10 + 5, none⟩ = some (.int .i64 k.cap) ∧ V.cell? ⟨b, o + j * 10 + 6, none⟩ = some (.string k.name) ∧ V.cell? ⟨b, o + j * 10 + 7, none⟩ = some (.int .i64 k.mn) ∧ V.cell? ⟨b, o + j * 10 + 8, none⟩ = some (.int .i64 k.mx) ∧ V.cell? ⟨b, o + j * 10 + 9, none⟩ = some (.bool k.lzy) := fun V hV hBx => by
        have a1 := hBx.ten.c1
        dsimp only at a1
        have h10 := HC.out V (.of_below (HBS.out.trans (hV.mono hws)) (Nat.le_refl _))
        exact ⟨a1, h10.c0, h10.c1, h10.c2, h10.c3, h10.c4, h10.c5, h10.c6, h10.c7, h10.c8, h10.c9⟩
      have HS := Lib.hid hSall
      clear hx hk hb hlt hc hSall
      go_upto_region 8 with fail
      replace HW := Lib.hid HW.out.drew
      replace HKS := Lib.hid (HKS.out.below (Below.refl _ wr).drew)
      replace HX := Lib.hid (HX.out.below (Below.refl _ wr).drew)
      replace HZ := Lib.hid (HZ.out.below (Below.refl _ wr).drew)
      replace HQ : Hid (w0.heap.size ≤ wr.drew.heap.size) := HQ
      have hS := HS.out _ HW.out HX.out
      refine wp_region_T (S := fun w' => w'.cell? ⟨w.heap.size, 1, none⟩ = some (.slice B ys.length d) ∧ w'.cell? ⟨b, o + j * 10, none⟩ = some (.int .i64 k.op) ∧ w'.cell? ⟨b, o + j * 10 + 1, none⟩ = some (.slice x.kA x.kn x.kc) ∧ w'.cell? ⟨b, o + j * 10 + 2, none⟩ = some (.int .i32 k.rune) ∧ w'.cell? ⟨b, o + j * 10 + 3, none⟩ = some (.slice x.sA x.sn x.sc) ∧ w'.cell? ⟨b, o + j * 10 + 4, none⟩ = some (.int .i64 k.at_) ∧ w'.cell? ⟨b, o + j * 10 + 5, none⟩ = some (.int .i64 k.cap) ∧ w'.cell? ⟨b, o + j * 10 + 6, none⟩ = some (.string k.name) ∧ w'.cell? ⟨b, o + j * 10 + 7, none⟩ = some (.int .i64 k.mn) ∧ w'.cell? ⟨b, o + j * 10 + 8, none⟩ = some (.int .i64 k.mx) ∧ w'.cell? ⟨b, o + j * 10 + 9, none⟩ = some (.bool k.lzy)) (t := 10) (by kernel_rfl) ?_
      generalize wr.drew = W1 at HW HKS HX HZ HQ hS ⊢
      refine wpAnyT_take (i := 0) (v := ?_) rfl (by kernel_rfl) (by kernel_rfl) (by kernel_rfl) (fun _ _ _ h => h) (by kernel_rfl) (Or.inl ⟨by rfl, ?_⟩) hS ?_
      rotate_left
      · (intro w _; go_simp; try with_reducible rfl)
      try simp only [List.getElem_toArray, List.getElem_cons_zero, Act.put, List.setIfInBounds_toArray, List.set_cons_zero, List.set_cons_succ]
      refine wpAnyT_take (i := 1) (v := ?_) rfl (by kernel_rfl) (by kernel_rfl) (by kernel_rfl) (fun _ _ _ h => h) (by kernel_rfl) (Or.inl ⟨by rfl, ?_⟩) hS ?_
      rotate_left
      · (intro w hS; obtain ⟨s0, s1, s2, s3, s4, s5, s6, s7, s8, s9, s10⟩ := hS; go_simp; try with_reducible rfl)
      try simp only [List.getElem_toArray, List.getElem_cons_succ, List.getElem_cons_zero, Act.put, List.setIfInBounds_toArray, List.set_cons_zero, List.set_cons_succ]
      refine wpAnyT_take (i := 2) (v := ?_) rfl (by kernel_rfl) (by kernel_rfl) (by kernel_rfl) (fun _ _ _ h => h) (by kernel_rfl) (Or.inl ⟨by rfl, ?_⟩) hS ?_
      rotate_left
      · (intro w _; go_simp; try with_reducible rfl)
      try simp only [List.getElem_toArray, List.getElem_cons_succ, List.getElem_cons_zero, Act.put, List.setIfInBounds_toArray, List.set_cons_zero, List.set_cons_succ]
      refine wpAnyT_take (i := 3) (v := ?_) rfl (by kernel_rfl) (by kernel_rfl) (by kernel_rfl) (fun _ _ _ h => h) (by kernel_rfl) (Or.inl ⟨by rfl, ?_⟩) hS ?_
      rotate_left
      · (intro w _; go_simp; try with_reducible rfl)
      try simp only [List.getElem_toArray, List.getElem_cons_succ, List.getElem_cons_zero, Act.put, List.setIfInBounds_toArray, List.set_cons_zero, List.set_cons_succ]
      refine wpAnyT_take (i := 4) (v := ?_) rfl (by kernel_rfl) (by kernel_rfl) (by kernel_rfl) (fun _ _ _ h => h) (by kernel_rfl) (Or.inl ⟨by rfl, ?_⟩) hS ?_
      rotate_left
      · (intro w _; go_simp; try with_reducible rfl)
      try simp only [List.getElem_toArray, List.getElem_cons_succ, List.getElem_cons_zero, Act.put, List.setIfInBounds_toArray, List.set_cons_zero, List.set_cons_succ]
      refine wpAnyT_take (i := 5) (v := ?_) rfl (by kernel_rfl) (by kernel_rfl) (by kernel_rfl) (fun _ _ _ h => h) (by kernel_rfl) (Or.inl ⟨by rfl, ?_⟩) hS ?_
      rotate_left
      · (intro w hS; obtain ⟨s0, s1, s2, s3, s4, s5, s6, s7, s8, s9, s10⟩ := hS; go_simp; try with_reducible rfl)
      try simp only [List.getElem_toArray, List.getElem_cons_succ, List.getElem_cons_zero, Act.put, List.setIfInBounds_toArray, List.set_cons_zero, List.set_cons_succ]
      refine wpAnyT_one (i := 6) (by kernel_rfl) rfl (fun K hK => ?_)
      go_simp
      refine (IH.out k (List.mem_of_getElem? HKK.out) HX5.out (HBS.out.trans (HW.out.mono hws)) (HP.out k (List.mem_of_getElem? HKK.out)) (H1.out.kid (List.mem_of_getElem? HKK.out))).mono ?_
      rintro e W5 ⟨⟨cA, cn, cc, eA, en, ec⟩, rfl, hz, hb5⟩
      have hz2 := HKS.out.kid (z := (k.bare, ⟨cA, cn, cc, eA, en, ec⟩)) (by have := HSZ.out; omega) hz HQ.out
      replace HKS := Lib.hid (HKS.out.below hb5)
      replace HX := Lib.hid (HX.out.below hb5)
      replace HZ := Lib.hid (HZ.out.below hb5)
      replace HW := Lib.hid (HW.out.trans (hb5.mono HW.out.size))
      replace HQ := Lib.hid (Nat.le_trans HQ.out hb5.size)
      have HZK := Lib.hid hz2
      clear hz hz2 hb5
      simp only [Tr.cells]
      go_simp
      replace hS := HS.out _ HW.out HX.out
      refine hK _ _ (Or.inr hS) ?_
      clear hK K
      try simp only [Array.getInternal_eq_getElem, List.getElem_toArray, List.getElem_cons_succ, List.getElem_cons_zero, Act.put, List.setIfInBounds_toArray, List.set_cons_zero, List.set_cons_succ]
      refine wpAnyT_one (i := 7) (by kernel_rfl) rfl (fun K hK => ?_)
      go_simp
      replace hS := HS.out (W5.alloc (.cells #[.int .i64 k.bare.op, .slice cA cn cc, .int .i32 k.bare.rune, .slice eA en ec, .int .i64 k.bare.at_, .int .i64 k.bare.cap, .string k.bare.name, .int .i64 k.bare.mn, .int .i64 k.bare.mx, .bool k.bare.lzy] 27)) (HW.out.alloc HW.out.size _) (HX.out.below ((Below.refl _ _).alloc (Nat.le_refl _) _))
      refine hK _ _ (Or.inr hS) ?_
      clear hK K
      try simp only [Array.getInternal_eq_getElem, List.getElem_toArray, List.getElem_cons_succ, List.getElem_cons_zero, Act.put, List.setIfInBounds_toArray, List.set_cons_zero, List.set_cons_succ]
      refine wpAnyT_one (i := 8) (by kernel_rfl) rfl (fun K hK => ?_)
      simp only [Region.wanted]
      have hown := HKS.out.row.own
      have hq5 := HQ.out
      have hne : (Value.slice B ys.length d).ownBlock ≠ some w.heap.size := fun e => by have := (own_lt hown e).1; have := HSZ.out; omega
      have hne1 : (Value.slice B ys.length d).ownBlock ≠ some (w.heap.size + 1) := fun e => by have := (own_lt hown e).1; have := HSZ.out; omega
      have hyl2 : ys.length ≤ 20000 := by have := HYL.out; have := HLT.out; omega
      refine wp_app _ (.tmp 23) (.tmp 29) 23 (by rfl) w0.heap.size 27 elTr (.slice B ys.length d) ys.length (tcells ys) (by rfl) (hown.alloc _) 0 (W5.heap.size + 1) (some ⟨W5.heap.size, 0, none⟩) 1 1 (Tr.cells k.bare ⟨cA, cn, cc, eA, en, ec⟩) (by rfl) (fun h => by cases h) rfl (Rd.new W5 _ _ _ (Nat.zero_le _) (by omega)) (fun u hu => tcells_one [(k.bare, ⟨cA, cn, cc, eA, en, ec⟩)] u (by simpa [tcells] using hu)) (by unfold maxLen; omega) (by omega) (by simp; omega) ?_
      intro v2 W2 hv2 hg2 hat2 _
      obtain ⟨B2, d2, rfl, hd2, hd2'⟩ := own_form hv2
      have ha5 : Below W5.heap.size W5 (W5.alloc (.cells #[.int .i64 k.bare.op, .slice cA cn cc, .int .i32 k.bare.rune, .slice eA en ec, .int .i64 k.bare.at_, .int .i64 k.bare.cap, .string k.bare.name, .int .i64 k.bare.mn, .int .i64 k.bare.mx, .bool k.bare.lzy] 27)) := (Below.refl _ _).alloc (Nat.le_refl _) _
      have hX2 := (HX.out.below ha5).grown hg2 hne
      have hZ2 := (HZ.out.below ha5).grown hg2 hne1
      have hK2 := HKS.out.snoc HZK.out hv2 hg2 hat2
      have hW2 : Below w.heap.size w W2 := (HW.out.trans (ha5.mono HW.out.size)).grown hg2 (by have := HW.out.size; simp; omega) (fun q hq => by have := (own_lt hown hq).1; have := HSZ.out; omega)
      have hQ2 : w0.heap.size ≤ W2.heap.size := by have := hg2.size; rw [World.size_alloc] at this; omega
      have hS3 := HS.out W2 hW2 hX2
      have g1 := hX2.ten.c1
      have f1 := Blk.frozen hX2 1
      dsimp only at g1
      replace hS := hS3
      refine hK _ _ (Or.inr hS) ?_
      clear hK K
      try simp only [List.getElem_toArray, List.getElem_cons_succ, List.getElem_cons_zero, Act.put, List.setIfInBounds_toArray, List.set_cons_zero, List.set_cons_succ]
      refine wpAnyT_take (i := 9) (v := ?_) rfl (by kernel_rfl) (by kernel_rfl) (by kernel_rfl) (fun _ _ _ h => h) (by kernel_rfl) (Or.inl ⟨by rfl, ?_⟩) hS ?_
      rotate_left
      · (intro w _; go_simp; try with_reducible rfl)
      try simp only [List.getElem_toArray, List.getElem_cons_succ, List.getElem_cons_zero, Act.put, List.setIfInBounds_toArray, List.set_cons_zero, List.set_cons_succ]
      refine wpAnyT_one (i := 10) (by kernel_rfl) rfl (fun K hK => ?_)
      go_simp
      have hlen : (ys ++ [(k.bare, (⟨cA, cn, cc, eA, en, ec⟩ : TA))]).length = ys.length + 1 := by simp
      have HX3 : Hid (TBox (W2.setCell ⟨w.heap.size, 1, none⟩ (.slice B2 (ys.length + 1) d2)) w.heap.size t ⟨B2, (ys ++ [(k.bare, (⟨cA, cn, cc, eA, en, ec⟩ : TA))]).length, d2, sA, sn, sc⟩) := Lib.hid (by rw [hlen]; exact hX2.kids B2 _ d2)
      have HZ3 : Hid (TBox (W2.setCell ⟨w.heap.size, 1, none⟩ (.slice B2 (ys.length + 1) d2)) (w.heap.size + 1) zT zA) := Lib.hid (hZ2.far (by simp) _)
      have HK3 : Hid (KSt ws.heap.size w0.heap.size (W2.setCell ⟨w.heap.size, 1, none⟩ (.slice B2 (ys.length + 1) d2)) (ys ++ [(k.bare, (⟨cA, cn, cc, eA, en, ec⟩ : TA))]) (.slice B2 (ys ++ [(k.bare, (⟨cA, cn, cc, eA, en, ec⟩ : TA))]).length d2) t.set sA sn sc) := Lib.hid (by rw [hlen]; exact hK2.far hws (by have := HSZ.out; show w.heap.size < _; omega) _)
      have HW3 : Hid (Below w.heap.size w (W2.setCell ⟨w.heap.size, 1, none⟩ (.slice B2 (ys.length + 1) d2))) := Lib.hid (hW2.setCell (Nat.le_refl _) _)
      have HQ3 : Hid (w0.heap.size ≤ (W2.setCell ⟨w.heap.size, 1, none⟩ (.slice B2 (ys.length + 1) d2)).heap.size) := Lib.hid (by rw [World.size_setCell]; exact hQ2)
      have HY3 : Hid ((ys ++ [(k.bare, (⟨cA, cn, cc, eA, en, ec⟩ : TA))]).map (·.1) = (t.kids.take (j + 1)).map Tr.bare) := Lib.hid (by rw [List.map_append, HYS.out, take_snoc HKK.out, List.map_append]; rfl)
      clear hX2 hZ2 hK2 hW2 hQ2 hS3 g1 f1 ha5 hv2 hg2 hat2 hown hq5 hne hne1 hyl2 hlen hd2 hd2'
      refine hK _ _ (Or.inl rfl) ?_
      clear hK K
      try simp only [Array.getInternal_eq_getElem, List.getElem_toArray, List.getElem_cons_succ, List.getElem_cons_zero, Act.put, List.setIfInBounds_toArray, List.set_cons_zero, List.set_cons_succ]
      refine wpAnyT_done (by kernel_rfl) ?_ _
      clear hS HX HZ HKS HW HQ HYS
      go_wp2_with fail
      go_roundg (kn + 1 - (j + 1))
      case measure => have := HG.out; have := HLT.out; omega
      case rel => exact ⟨j + 1, _, B2, d2, rfl, by have := HLT.out; omega, by go_num, HY3, HK3, HX3, HZ3, HW3, HQ3⟩
    · have hi : ¬ (j : Int) < (kn : Int) := by omega
      have hall : t.kids.take j = t.kids := by rw [show j = t.kids.length by have := HK.out.len; have := HJ.out; omega, List.take_length]
      rw [hall] at HYS
      have h10 := HX.out.ten
      have k0 := h10.c0
      have k1 := h10.c1
      have k2 := h10.c2
      have k3 := h10.c3
      have k4 := h10.c4
      have k5 := h10.c5
      have k6 := h10.c6
      have k7 := h10.c7
      have k8 := h10.c8
      have k9 := h10.c9
      dsimp only at k1 k3
      have z10 := HZ.out.ten
      have z0 := z10.c0
      have z1 := z10.c1
      have z2 := z10.c2
      have z3 := z10.c3
      have z4 := z10.c4
      have z5 := z10.c5
      have z6 := z10.c6
      have z7 := z10.c7
      have z8 := z10.c8
      have z9 := z10.c9
      have f0 := Blk.frozen HZ.out 0
      have f1 := Blk.frozen HZ.out 1
      have f2 := Blk.frozen HZ.out 2
      have f3 := Blk.frozen HZ.out 3
      have f4 := Blk.frozen HZ.out 4
      have f5 := Blk.frozen HZ.out 5
      have f6 := Blk.frozen HZ.out 6
      have f7 := Blk.frozen HZ.out 7
      have f8 := Blk.frozen HZ.out 8
      have f9 := Blk.frozen HZ.out 9
      dsimp only [zT, zA] at z0 z1 z2 z3 z4 z5 z6 z7 z8 z9
      clear z10
      clear h10 hlt hall
      go_wp2_with fail
      have hB1 : (B = none → ys.length = 0) := fun e => by
        rcases HKS.out.row.own.2 with ⟨h0, _⟩ | ⟨g, cap, cur, h0, _⟩
        · injection h0
        · rw [e] at h0; injection h0 with h0; cases h0
      obtain ⟨B', d', hf', hd1, hd2⟩ := own_form HKS.out.row.own
      injection hf' with e1 _ e2
      subst e1
      subst e2
      have hdone := (HKS.out.put (t := t) (a := ⟨B, ys.length, d, sA, sn, sc⟩) (g := w.heap.size + 1) (by omega) (by have := HSZ.out; omega)).done (op := t.op) (rune := t.rune) (at_ := t.at_) (cap := t.cap) (mn := t.mn) (mx := t.mx) (name := t.name) (lzy := t.lzy) (wsz := w.heap.size) rfl hd1 hd2 hB1 HT.out.name HB0.out
      rw [HYS.out, ← HRES.out] at hdone
      refine tree_ret (t := t) (a := ⟨B, ys.length, d, sA, sn, sc⟩) HZ.out rfl rfl ⟨_, ?_, hdone, put10_below HW.out (by omega)⟩
      rw [HRES.out]
      rfl
end Go.Proofs.Ytbhcgjahlfpjoaa
namespace Go.Proofs.Ytbhcgjahlfpjoaa
open Go.RowKit

theorem TBox.ats {W : World} {g : Nat} {t : Tr} {a : TA} (h : TBox W g t a) (x : Int) : TBox (W.setCell ⟨g, 4, none⟩ (.int .i64 x)) g ⟨t.op, t.kids, t.rune, t.set, x, t.cap, t.name, t.mn, t.mx, t.lzy⟩ a := Blk.set h 4 _
/-- The kids in the order in which they are turned. -/
def ordK (t : Tr) : List Tr := if t.op = 11 then t.kids.reverse else t.kids
theorem ordK_len (t : Tr) : (ordK t).length = t.kids.length := by unfold ordK; split <;> simp
theorem ordK_turn (t : Tr) : (if t.op = 11 then (t.kids.map Tr.turn).reverse else t.kids.map Tr.turn) = (ordK t).map Tr.turn := by unfold ordK; split <;> simp
theorem ordK_mem {t k : Tr} {j : Nat} (h : (ordK t)[j]? = some k) : k ∈ t.kids := by
  have := List.mem_of_getElem? h
  unfold ordK at this
  split at this <;> simpa using this

set_option maxRecDepth 20000 in
set_option maxHeartbeats 8000000 in
theorem rturned_any : ∀ (t : Tr) {ws w : World} {kA : Option Addr} {kn kc : Nat} {sA : Option Addr} {sn sc : Nat}, TIn ws t ⟨kA, kn, kc, sA, sn, sc⟩ → Below ws.heap.size ws w → t.parts ≤ 20000 → OneP t → Calls Try.prog 68 #[.agg #[.int .i64 t.op, .slice kA kn kc, .int .i32 t.rune, .slice sA sn sc, .int .i64 t.at_, .int .i64 t.cap, .string t.name, .int .i64 t.mn, .int .i64 t.mx, .bool t.lzy]] w (BuiltB (t.turn) ws.heap.size w) := by
  intro t
  induction t using Tr.ind with
  | h t ih =>
  intro ws w kA kn kc sA sn sc hT hbs hp h1
  have hws := hbs.size
  have hX := (TBox.newV w t kA kn kc sA sn sc).below (show Below _ _ ((w.alloc (.cells #[.int .i64 t.op, .slice kA kn kc, .int .i32 t.rune, .slice sA sn sc, .int .i64 t.at_, .int .i64 t.cap, .string t.name, .int .i64 t.mn, .int .i64 t.mx, .bool t.lzy] 27)).alloc (.cells #[.int .i64 0, .slice none 0 0, .int .i32 0, .slice none 0 0, .int .i64 0, .int .i64 0, .string ⟨#[]⟩, .int .i64 0, .int .i64 0, .bool false] 27)) from (Below.refl _ _).alloc (Nat.le_refl _) _)
  have hZ := zbox (w.alloc (.cells #[.int .i64 t.op, .slice kA kn kc, .int .i32 t.rune, .slice sA sn sc, .int .i64 t.at_, .int .i64 t.cap, .string t.name, .int .i64 t.mn, .int .i64 t.mx, .bool t.lzy] 27))
  rw [World.size_alloc] at hZ
  have hb : Below w.heap.size w ((w.alloc (.cells #[.int .i64 t.op, .slice kA kn kc, .int .i32 t.rune, .slice sA sn sc, .int .i64 t.at_, .int .i64 t.cap, .string t.name, .int .i64 t.mn, .int .i64 t.mx, .bool t.lzy] 27)).alloc (.cells #[.int .i64 0, .slice none 0 0, .int .i32 0, .slice none 0 0, .int .i64 0, .int .i64 0, .string ⟨#[]⟩, .int .i64 0, .int .i64 0, .bool false] 27)) := ((Below.refl _ _).alloc (Nat.le_refl _) _).alloc (by rw [World.size_alloc]; omega) _
  have hsz : ((w.alloc (.cells #[.int .i64 t.op, .slice kA kn kc, .int .i32 t.rune, .slice sA sn sc, .int .i64 t.at_, .int .i64 t.cap, .string t.name, .int .i64 t.mn, .int .i64 t.mx, .bool t.lzy] 27)).alloc (.cells #[.int .i64 0, .slice none 0 0, .int .i32 0, .slice none 0 0, .int .i64 0, .int .i64 0, .string ⟨#[]⟩, .int .i64 0, .int .i64 0, .bool false] 27)).heap.size = w.heap.size + 2 := by simp
  have hkp : ∀ k ∈ t.kids, k.parts ≤ 20000 := fun k hk => by have := Tr.partsL_le hk; rw [Tr.parts_eq] at hp; omega
  obtain ⟨ka, hK⟩ := hT.kidsV
  have hkn : kn ≤ 20000 := by have := Tr.len_le_partsL t.kids; rw [Tr.parts_eq] at hp; have := hK.len; omega
  have h10 := hX.ten
  have k0 := h10.c0
  have k1 := h10.c1
  have k2 := h10.c2
  have k3 := h10.c3
  have k4 := h10.c4
  have k5 := h10.c5
  have k6 := h10.c6
  have k7 := h10.c7
  have k8 := h10.c8
  have k9 := h10.c9
  dsimp only at k1 k3
  have HT := Lib.hid hT
  have HK := Lib.hid hK
  have HB := Lib.hid hb
  have HBS := Lib.hid hbs
  have HX := Lib.hid hX
  have HZ := Lib.hid hZ
  have HP := Lib.hid hkp
  have IH := Lib.hid ih
  have HSZ := Lib.hid hsz
  have H1 := Lib.hid h1
  clear hb hX hZ hkp ih hT hp h10 hK hbs hsz h1
  go_enter Try.func68, Try.ntmps68
  go_upto_region 1 with fail
  generalize (w.alloc (.cells #[.int .i64 t.op, .slice kA kn kc, .int .i32 t.rune, .slice sA sn sc, .int .i64 t.at_, .int .i64 t.cap, .string t.name, .int .i64 t.mn, .int .i64 t.mx, .bool t.lzy] 27)).alloc (.cells #[.int .i64 0, .slice none 0 0, .int .i32 0, .slice none 0 0, .int .i64 0, .int .i64 0, .string ⟨#[]⟩, .int .i64 0, .int .i64 0, .bool false] 27) = w0 at HB HX HZ HSZ k0 k1 k2 k3 k4 k5 k6 k7 k8 k9 ⊢
  by_cases h6 : t.op = 6
  · have d0 : (t.op == 6) = true := beq_iff_eq.2 h6
    obtain ⟨k, hkids⟩ := H1.out.self h6
    have hres : t.turn = k.turn := by rw [Tr.turn_eq, if_pos h6, hkids]; rfl
    obtain ⟨b, o, k', x, rfl, hb, hk, hx, hc⟩ := HK.out.at (i := 0) (by have := HK.out.len; rw [hkids] at this; simp at this; omega)
    obtain rfl : k = k' := by rw [hkids] at hk; simpa using hk
    have hkm : k ∈ t.kids := by rw [hkids]; simp
    have h0n : (0 : Int) < (kn : Int) := by have := HK.out.len; rw [hkids] at this; simp at this; omega
    have h10 := hc w0 (.of_below (HBS.out.trans (HB.out.mono hws)) (Nat.le_refl _))
    simp only [Nat.zero_mul, Nat.add_zero] at h10
    have q0 := h10.c0
    have q1 := h10.c1
    have q2 := h10.c2
    have q3 := h10.c3
    have q4 := h10.c4
    have q5 := h10.c5
    have q6 := h10.c6
    have q7 := h10.c7
    have q8 := h10.c8
    have q9 := h10.c9
    have hcall := IH.out k hkm hx (HBS.out.trans (HB.out.mono hws)) (HP.out k hkm) (H1.out.kid hkm)
    have HRES := Lib.hid hres
    clear h10 hc hx hk hb hkids hkm h6 hres
    go_wp2_with fail
    refine hcall.mono ?_
    rintro e W5 ⟨⟨cA, cn, cc, eA, en, ec⟩, rfl, hz, hb5⟩
    have HZ5 := Lib.hid (HZ.out.below hb5)
    have HTK := Lib.hid hz
    have HB5 := Lib.hid (HB.out.trans (hb5.mono HB.out.size))
    clear hcall hb5 hz k0 k1 k2 k3 k4 k5 k6 k7 k8 k9 q0 q1 q2 q3 q4 q5 q6 q7 q8 q9
    have z10 := HZ5.out.ten
    have z0 := z10.c0
    have z1 := z10.c1
    have z2 := z10.c2
    have z3 := z10.c3
    have z4 := z10.c4
    have z5 := z10.c5
    have z6 := z10.c6
    have z7 := z10.c7
    have z8 := z10.c8
    have z9 := z10.c9
    have f0 := Blk.frozen HZ5.out 0
    have f1 := Blk.frozen HZ5.out 1
    have f2 := Blk.frozen HZ5.out 2
    have f3 := Blk.frozen HZ5.out 3
    have f4 := Blk.frozen HZ5.out 4
    have f5 := Blk.frozen HZ5.out 5
    have f6 := Blk.frozen HZ5.out 6
    have f7 := Blk.frozen HZ5.out 7
    have f8 := Blk.frozen HZ5.out 8
    have f9 := Blk.frozen HZ5.out 9
    dsimp only [zT, zA] at z0 z1 z2 z3 z4 z5 z6 z7 z8 z9
    clear z10
    simp only [Tr.cells]
    go_wp2_with fail
    have hfin := (HTK.out.put (g := w.heap.size + 1) (t := k.turn) (a := ⟨cA, cn, cc, eA, en, ec⟩) (by have := HSZ.out; omega)).mono (ok' := fun b => b < ws.heap.size ∨ w.heap.size ≤ b) fun b _ hb => by have := HSZ.out; omega
    rw [← HRES.out] at hfin
    refine tree_ret (t := k.turn) (a := ⟨cA, cn, cc, eA, en, ec⟩) HZ5.out rfl rfl ?_
    rw [← HRES.out]
    exact ⟨_, rfl, hfin, put10_below HB5.out (by omega)⟩
  have d0 : (t.op == 6) = false := beq_eq_false_iff_ne.2 h6
  have hres : t.turn = ⟨t.op, (ordK t).map Tr.turn, t.rune, t.set, turnAt t.at_, t.cap, t.name, t.mn, t.mx, t.lzy⟩ := by rw [Tr.turn_eq, if_neg h6, ordK_turn]
  have HRES := Lib.hid hres
  clear h6 hres
  clear k1 k2 k3 k4 k5 k6 k7 k8 k9
  go_upto_region 5 with fail
  have hbw := HBS.out.trans (HB.out.mono hws)
  have hset1 : TOk w0 (fun b => b < ws.heap.size ∨ w0.heap.size ≤ b) (leafS t.set) ⟨none, 0, 0, sA, sn, sc⟩ := (HT.out.tok.leaf.keep (fun b _ hlt => hbw.block b hlt) hbw.size).mono fun b _ hb => Or.inl hb
  have HK2 := Lib.hid (KSt.nil (m0 := ws.heap.size) (base := w0.heap.size) hset1)
  have HB0 := Lib.hid HB.out.size
  have HQ : Hid (w0.heap.size ≤ w0.heap.size) := Lib.hid (Nat.le_refl _)
  clear hset1 hbw k0
  go_loopg [3, 4] (kn + 1) (fun q v i W => ∃ (j : Nat) (ys : List (Tr × TA)) (B : Option Addr) (d : Nat), q = kn + 1 - j ∧ j ≤ kn ∧ i = .int .i64 (j : Int) ∧ v = .slice B ys.length d ∧ Hid (ys.map (·.1) = ((ordK t).take j).map Tr.turn) ∧ Hid (KSt ws.heap.size w0.heap.size W ys (.slice B ys.length d) t.set sA sn sc) ∧ Hid (TBox W w.heap.size t ⟨kA, kn, kc, sA, sn, sc⟩) ∧ Hid (TBox W (w.heap.size + 1) zT zA) ∧ Hid (Below w.heap.size w W) ∧ Hid (w0.heap.size ≤ W.heap.size))
  case atStart => exact ⟨0, [], none, 0, rfl, Nat.zero_le _, rfl, rfl, Lib.hid rfl, HK2, HX, HZ, HB, HQ⟩
  case round =>
    clear HX HZ HB HK2 HQ
    obtain ⟨j, ys, B, d, hgk, hj, rfl, rfl, HYS, HKS, HX, HZ, HW, HQ⟩ := hrel
    have HG := Lib.hid hgk
    have HJ := Lib.hid hj
    have hyl : ys.length = j := by
      have h1 := congrArg List.length HYS.out
      rw [List.length_map, List.length_map, List.length_take, ordK_len, HK.out.len] at h1
      omega
    have HYL := Lib.hid hyl
    have c1 := HX.out.ten.c1
    have c0 := HX.out.ten.c0
    dsimp only at c1
    clear hgk hj hyl
    by_cases hlt : j < kn
    · have hi : (j : Int) < (kn : Int) := by omega
      by_cases h11 : t.op = 11
      · have d11 : (t.op == 11) = true := beq_iff_eq.2 h11
        obtain ⟨m, hm⟩ : ∃ m : Nat, m = kn - 1 - j := ⟨_, rfl⟩
        have hm1 : (kn : Int) - 1 - (j : Int) = (m : Int) := by omega
        have hm0 : IntKind.i64.wrap ((kn : Int) - 1) = (kn : Int) - 1 := IntWalk.i64_in _ (by omega)
        have hm2 : (m : Int) < (kn : Int) := by omega
        have hm3 : IntKind.i64.wrap (m : Int) = (m : Int) := IntWalk.i64_in _ (by omega)
        have hmk : m < kn := by omega
        have HM := Lib.hid hm
        clear hm
        obtain ⟨b, o, k, x, rfl, hb, hk, hx, hc⟩ := HK.out.at (i := m) (by omega)
        have hok : (ordK t)[j]? = some k := by unfold ordK; rw [if_pos h11, List.getElem?_reverse (by rw [HK.out.len]; exact hlt), HK.out.len, ← HM.out]; exact hk
        have h10 := hc wr (.of_below (HBS.out.trans (HW.out.mono hws)) (Nat.le_refl _))
        have k0 := h10.c0
        have k1 := h10.c1
        have k2 := h10.c2
        have k3 := h10.c3
        have k4 := h10.c4
        have k5 := h10.c5
        have k6 := h10.c6
        have k7 := h10.c7
        have k8 := h10.c8
        have k9 := h10.c9
        have hcall := IH.out k (ordK_mem hok) hx (HBS.out.trans (HW.out.mono hws)) (HP.out k (ordK_mem hok)) (H1.out.kid (ordK_mem hok))
        have HOK := Lib.hid hok
        have HLT := Lib.hid hlt
        clear h10 hc hx hk hb hlt hok h11
        go_wp2_with fail
        refine hcall.mono ?_
        rintro e W5 ⟨⟨cA, cn, cc, eA, en, ec⟩, rfl, hz, hb5⟩
        have hz2 := HKS.out.kid (z := (k.turn, ⟨cA, cn, cc, eA, en, ec⟩)) (by have := HSZ.out; omega) hz HQ.out
        replace HKS := Lib.hid (HKS.out.below hb5)
        replace HX := Lib.hid (HX.out.below hb5)
        replace HZ := Lib.hid (HZ.out.below hb5)
        replace HW := Lib.hid (HW.out.trans (hb5.mono HW.out.size))
        replace HQ := Lib.hid (Nat.le_trans HQ.out hb5.size)
        have HZK := Lib.hid hz2
        clear hcall hz hz2 hb5 k0 k1 k2 k3 k4 k5 k6 k7 k8 k9 c0 c1
        simp only [Tr.cells]
        have hown := HKS.out.row.own
        have hq5 := HQ.out
        have hne : (Value.slice B ys.length d).ownBlock ≠ some w.heap.size := fun e => by have := (own_lt hown e).1; have := HSZ.out; omega
        have hne1 : (Value.slice B ys.length d).ownBlock ≠ some (w.heap.size + 1) := fun e => by have := (own_lt hown e).1; have := HSZ.out; omega
        have hyl2 : ys.length ≤ 20000 := by have := HYL.out; have := HLT.out; omega
        go_wp2_with (at_builtin; refine wpList_app _ rfl _ _ 23 rfl w0.heap.size 27 elTr (.slice B ys.length d) ys.length (tcells ys) rfl (hown.alloc _) 0 (W5.heap.size + 1) (some ⟨W5.heap.size, 0, none⟩) 1 1 (Tr.cells k.turn ⟨cA, cn, cc, eA, en, ec⟩) rfl (fun h => by cases h) rfl (Rd.new W5 _ _ _ (Nat.zero_le _) (by omega)) (fun u hu => tcells_one [(k.turn, ⟨cA, cn, cc, eA, en, ec⟩)] u (by simpa [tcells] using hu)) (by unfold maxLen; omega) (by omega) (by simp; omega) ?_; intro v2 W2 hv2 hg2 hat2 _; obtain ⟨B2, d2, rfl, hd2, hd2'⟩ := own_form hv2)
        have ha5 : Below W5.heap.size W5 (W5.alloc (.cells #[.int .i64 k.turn.op, .slice cA cn cc, .int .i32 k.turn.rune, .slice eA en ec, .int .i64 k.turn.at_, .int .i64 k.turn.cap, .string k.turn.name, .int .i64 k.turn.mn, .int .i64 k.turn.mx, .bool k.turn.lzy] 27)) := (Below.refl _ _).alloc (Nat.le_refl _) _
        have hlen : (ys ++ [(k.turn, (⟨cA, cn, cc, eA, en, ec⟩ : TA))]).length = ys.length + 1 := by simp
        have HX3 := Lib.hid ((HX.out.below ha5).grown hg2 hne)
        have HZ3 := Lib.hid ((HZ.out.below ha5).grown hg2 hne1)
        have HK3 : Hid (KSt ws.heap.size w0.heap.size W2 (ys ++ [(k.turn, (⟨cA, cn, cc, eA, en, ec⟩ : TA))]) (.slice B2 (ys ++ [(k.turn, (⟨cA, cn, cc, eA, en, ec⟩ : TA))]).length d2) t.set sA sn sc) := Lib.hid (by rw [hlen]; exact HKS.out.snoc HZK.out hv2 hg2 hat2)
        have HW3 : Hid (Below w.heap.size w W2) := Lib.hid ((HW.out.trans (ha5.mono HW.out.size)).grown hg2 (by have := HW.out.size; simp; omega) (fun q hq => by have := (own_lt hown hq).1; have := HSZ.out; omega))
        have HQ3 : Hid (w0.heap.size ≤ W2.heap.size) := Lib.hid (by have := hg2.size; rw [World.size_alloc] at this; omega)
        have HY3 : Hid ((ys ++ [(k.turn, (⟨cA, cn, cc, eA, en, ec⟩ : TA))]).map (·.1) = ((ordK t).take (j + 1)).map Tr.turn) := Lib.hid (by rw [List.map_append, HYS.out, take_snoc HOK.out, List.map_append]; rfl)
        clear ha5 hv2 hg2 hat2 hown hq5 hne hne1 hyl2 hd2 hd2' HX HZ HKS HW HQ HYS
        go_roundg (kn + 1 - (j + 1))
        case measure => have := HG.out; have := HLT.out; omega
        case rel => exact ⟨j + 1, _, B2, d2, rfl, by have := HLT.out; omega, by go_num, by rw [hlen], HY3, HK3, HX3, HZ3, HW3, HQ3⟩
      · have d11 : (t.op == 11) = false := beq_eq_false_iff_ne.2 h11
        obtain ⟨b, o, k, x, rfl, hb, hk, hx, hc⟩ := HK.out.at (i := j) (by omega)
        have hok : (ordK t)[j]? = some k := by unfold ordK; rw [if_neg h11]; exact hk
        have h10 := hc wr (.of_below (HBS.out.trans (HW.out.mono hws)) (Nat.le_refl _))
        have k0 := h10.c0
        have k1 := h10.c1
        have k2 := h10.c2
        have k3 := h10.c3
        have k4 := h10.c4
        have k5 := h10.c5
        have k6 := h10.c6
        have k7 := h10.c7
        have k8 := h10.c8
        have k9 := h10.c9
        have hcall := IH.out k (ordK_mem hok) hx (HBS.out.trans (HW.out.mono hws)) (HP.out k (ordK_mem hok)) (H1.out.kid (ordK_mem hok))
        have HOK := Lib.hid hok
        have HLT := Lib.hid hlt
        clear h10 hc hx hk hb hlt hok h11
        go_wp2_with fail
        refine hcall.mono ?_
        rintro e W5 ⟨⟨cA, cn, cc, eA, en, ec⟩, rfl, hz, hb5⟩
        have hz2 := HKS.out.kid (z := (k.turn, ⟨cA, cn, cc, eA, en, ec⟩)) (by have := HSZ.out; omega) hz HQ.out
        replace HKS := Lib.hid (HKS.out.below hb5)
        replace HX := Lib.hid (HX.out.below hb5)
        replace HZ := Lib.hid (HZ.out.below hb5)
        replace HW := Lib.hid (HW.out.trans (hb5.mono HW.out.size))
        replace HQ := Lib.hid (Nat.le_trans HQ.out hb5.size)
        have HZK := Lib.hid hz2
        clear hcall hz hz2 hb5 k0 k1 k2 k3 k4 k5 k6 k7 k8 k9 c0 c1
        simp only [Tr.cells]
        have hown := HKS.out.row.own
        have hq5 := HQ.out
        have hne : (Value.slice B ys.length d).ownBlock ≠ some w.heap.size := fun e => by have := (own_lt hown e).1; have := HSZ.out; omega
        have hne1 : (Value.slice B ys.length d).ownBlock ≠ some (w.heap.size + 1) := fun e => by have := (own_lt hown e).1; have := HSZ.out; omega
        have hyl2 : ys.length ≤ 20000 := by have := HYL.out; have := HLT.out; omega
        go_wp2_with (at_builtin; refine wpList_app _ rfl _ _ 23 rfl w0.heap.size 27 elTr (.slice B ys.length d) ys.length (tcells ys) rfl (hown.alloc _) 0 (W5.heap.size + 1) (some ⟨W5.heap.size, 0, none⟩) 1 1 (Tr.cells k.turn ⟨cA, cn, cc, eA, en, ec⟩) rfl (fun h => by cases h) rfl (Rd.new W5 _ _ _ (Nat.zero_le _) (by omega)) (fun u hu => tcells_one [(k.turn, ⟨cA, cn, cc, eA, en, ec⟩)] u (by simpa [tcells] using hu)) (by unfold maxLen; omega) (by omega) (by simp; omega) ?_; intro v2 W2 hv2 hg2 hat2 _; obtain ⟨B2, d2, rfl, hd2, hd2'⟩ := own_form hv2)
        have ha5 : Below W5.heap.size W5 (W5.alloc (.cells #[.int .i64 k.turn.op, .slice cA cn cc, .int .i32 k.turn.rune, .slice eA en ec, .int .i64 k.turn.at_, .int .i64 k.turn.cap, .string k.turn.name, .int .i64 k.turn.mn, .int .i64 k.turn.mx, .bool k.turn.lzy] 27)) := (Below.refl _ _).alloc (Nat.le_refl _) _
        have hlen : (ys ++ [(k.turn, (⟨cA, cn, cc, eA, en, ec⟩ : TA))]).length = ys.length + 1 := by simp
        have HX3 := Lib.hid ((HX.out.below ha5).grown hg2 hne)
        have HZ3 := Lib.hid ((HZ.out.below ha5).grown hg2 hne1)
        have HK3 : Hid (KSt ws.heap.size w0.heap.size W2 (ys ++ [(k.turn, (⟨cA, cn, cc, eA, en, ec⟩ : TA))]) (.slice B2 (ys ++ [(k.turn, (⟨cA, cn, cc, eA, en, ec⟩ : TA))]).length d2) t.set sA sn sc) := Lib.hid (by rw [hlen]; exact HKS.out.snoc HZK.out hv2 hg2 hat2)
        have HW3 : Hid (Below w.heap.size w W2) := Lib.hid ((HW.out.trans (ha5.mono HW.out.size)).grown hg2 (by have := HW.out.size; simp; omega) (fun q hq => by have := (own_lt hown hq).1; have := HSZ.out; omega))
        have HQ3 : Hid (w0.heap.size ≤ W2.heap.size) := Lib.hid (by have := hg2.size; rw [World.size_alloc] at this; omega)
        have HY3 : Hid ((ys ++ [(k.turn, (⟨cA, cn, cc, eA, en, ec⟩ : TA))]).map (·.1) = ((ordK t).take (j + 1)).map Tr.turn) := Lib.hid (by rw [List.map_append, HYS.out, take_snoc HOK.out, List.map_append]; rfl)
        clear ha5 hv2 hg2 hat2 hown hq5 hne hne1 hyl2 hd2 hd2' HX HZ HKS HW HQ HYS
        go_roundg (kn + 1 - (j + 1))
        case measure => have := HG.out; have := HLT.out; omega
        case rel => exact ⟨j + 1, _, B2, d2, rfl, by have := HLT.out; omega, by go_num, by rw [hlen], HY3, HK3, HX3, HZ3, HW3, HQ3⟩
    · have hi : ¬ (j : Int) < (kn : Int) := by omega
      have hall : (ordK t).take j = ordK t := by rw [show j = (ordK t).length by rw [ordK_len]; have := HK.out.len; have := HJ.out; omega, List.take_length]
      rw [hall] at HYS
      have f1 := Blk.frozen HX.out 1
      clear hlt hall
      have hB1 : (B = none → ys.length = 0) := fun e => by
        rcases HKS.out.row.own.2 with ⟨h0, _⟩ | ⟨g, cap, cur, h0, _⟩
        · injection h0
        · rw [e] at h0; injection h0 with h0; cases h0
      obtain ⟨B', d', hf', hd1, hd2⟩ := own_form HKS.out.row.own
      injection hf' with e1 _ e2
      subst e1
      subst e2
      have HD1 := Lib.hid hd1
      have HD2 := Lib.hid hd2
      have HBN := Lib.hid hB1
      clear hd1 hd2 hB1
      go_upto_region 12 with fail
      have hX2 := HX.out.kids B ys.length d
      have hZ2 := HZ.out.far (p := ⟨w.heap.size, 1, none⟩) (by simp) (.slice B ys.length d)
      have hW2 := HW.out.setCell (p := ⟨w.heap.size, 1, none⟩) (Nat.le_refl _) (.slice B ys.length d)
      have hK2 := HKS.out.far (p := ⟨w.heap.size, 1, none⟩) hws (by have := HSZ.out; show w.heap.size < _; omega) (.slice B ys.length d)
      clear HX HZ HW HKS HQ c0 c1 f1
      generalize wr.setCell ⟨w.heap.size, 1, none⟩ (.slice B ys.length d) = V at hX2 hZ2 hW2 hK2 ⊢
      have HX := Lib.hid hX2
      have HZ := Lib.hid hZ2
      have HW := Lib.hid hW2
      have HKS := Lib.hid hK2
      clear hX2 hZ2 hW2 hK2
      have c4 := HX.out.ten.c4
      have f4 := Blk.frozen HX.out 4
      by_cases e1 : t.at_ = 1
      · have a1 : (t.at_ == 1) = true := beq_iff_eq.2 e1
        have hta : turnAt t.at_ = 2 := by rw [e1]; rfl
        have HTA := Lib.hid hta
        clear e1 hta
        go_upto_region 21 with fail
        replace HX := Lib.hid (HX.out.ats 2)
        replace HZ := Lib.hid (HZ.out.far (p := ⟨w.heap.size, 4, none⟩) (by simp) (.int .i64 2))
        replace HW := Lib.hid (HW.out.setCell (p := ⟨w.heap.size, 4, none⟩) (Nat.le_refl _) (.int .i64 2))
        replace HKS := Lib.hid (HKS.out.far (p := ⟨w.heap.size, 4, none⟩) hws (by have := HSZ.out; show w.heap.size < _; omega) (.int .i64 2))
        clear c4 f4
        generalize V.setCell ⟨w.heap.size, 4, none⟩ (.int .i64 2) = V4 at HX HZ HW HKS ⊢
        have h10 := HX.out.ten
        have k0 := h10.c0
        have k1 := h10.c1
        have k2 := h10.c2
        have k3 := h10.c3
        have k4 := h10.c4
        have k5 := h10.c5
        have k6 := h10.c6
        have k7 := h10.c7
        have k8 := h10.c8
        have k9 := h10.c9
        dsimp only at k0 k1 k2 k3 k4 k5 k6 k7 k8 k9
        have z10 := HZ.out.ten
        have z0 := z10.c0
        have z1 := z10.c1
        have z2 := z10.c2
        have z3 := z10.c3
        have z4 := z10.c4
        have z5 := z10.c5
        have z6 := z10.c6
        have z7 := z10.c7
        have z8 := z10.c8
        have z9 := z10.c9
        have f0 := Blk.frozen HZ.out 0
        have f1 := Blk.frozen HZ.out 1
        have f2 := Blk.frozen HZ.out 2
        have f3 := Blk.frozen HZ.out 3
        have f4 := Blk.frozen HZ.out 4
        have f5 := Blk.frozen HZ.out 5
        have f6 := Blk.frozen HZ.out 6
        have f7 := Blk.frozen HZ.out 7
        have f8 := Blk.frozen HZ.out 8
        have f9 := Blk.frozen HZ.out 9
        dsimp only [zT, zA] at z0 z1 z2 z3 z4 z5 z6 z7 z8 z9
        clear z10
        clear h10
        go_wp2_with fail
        have hdone := (HKS.out.put (t := ⟨t.op, t.kids, t.rune, t.set, 2, t.cap, t.name, t.mn, t.mx, t.lzy⟩) (a := ⟨B, ys.length, d, sA, sn, sc⟩) (g := w.heap.size + 1) (by omega) (by have := HSZ.out; omega)).done (op := t.op) (rune := t.rune) (at_ := 2) (cap := t.cap) (mn := t.mn) (mx := t.mx) (name := t.name) (lzy := t.lzy) (wsz := w.heap.size) rfl HD1.out HD2.out HBN.out HT.out.name HB0.out
        rw [HYS.out] at hdone
        have hfin : t.turn = ⟨t.op, (ordK t).map Tr.turn, t.rune, t.set, 2, t.cap, t.name, t.mn, t.mx, t.lzy⟩ := by rw [HRES.out, HTA.out]
        rw [← hfin] at hdone
        refine tree_ret (t := ⟨t.op, t.kids, t.rune, t.set, 2, t.cap, t.name, t.mn, t.mx, t.lzy⟩) (a := ⟨B, ys.length, d, sA, sn, sc⟩) HZ.out rfl rfl ⟨_, ?_, hdone, put10_below HW.out (by omega)⟩
        rw [hfin]
        rfl
      have a1 : (t.at_ == 1) = false := beq_eq_false_iff_ne.2 e1
      by_cases e2 : t.at_ = 2
      · have a2 : (t.at_ == 2) = true := beq_iff_eq.2 e2
        have hta : turnAt t.at_ = 1 := by rw [e2]; rfl
        have HTA := Lib.hid hta
        clear e2 hta
        go_upto_region 21 with fail
        replace HX := Lib.hid (HX.out.ats 1)
        replace HZ := Lib.hid (HZ.out.far (p := ⟨w.heap.size, 4, none⟩) (by simp) (.int .i64 1))
        replace HW := Lib.hid (HW.out.setCell (p := ⟨w.heap.size, 4, none⟩) (Nat.le_refl _) (.int .i64 1))
        replace HKS := Lib.hid (HKS.out.far (p := ⟨w.heap.size, 4, none⟩) hws (by have := HSZ.out; show w.heap.size < _; omega) (.int .i64 1))
        clear c4 f4
        generalize V.setCell ⟨w.heap.size, 4, none⟩ (.int .i64 1) = V4 at HX HZ HW HKS ⊢
        have h10 := HX.out.ten
        have k0 := h10.c0
        have k1 := h10.c1
        have k2 := h10.c2
        have k3 := h10.c3
        have k4 := h10.c4
        have k5 := h10.c5
        have k6 := h10.c6
        have k7 := h10.c7
        have k8 := h10.c8
        have k9 := h10.c9
        dsimp only at k0 k1 k2 k3 k4 k5 k6 k7 k8 k9
        have z10 := HZ.out.ten
        have z0 := z10.c0
        have z1 := z10.c1
        have z2 := z10.c2
        have z3 := z10.c3
        have z4 := z10.c4
        have z5 := z10.c5
        have z6 := z10.c6
        have z7 := z10.c7
        have z8 := z10.c8
        have z9 := z10.c9
        have f0 := Blk.frozen HZ.out 0
        have f1 := Blk.frozen HZ.out 1
        have f2 := Blk.frozen HZ.out 2
        have f3 := Blk.frozen HZ.out 3
        have f4 := Blk.frozen HZ.out 4
        have f5 := Blk.frozen HZ.out 5
        have f6 := Blk.frozen HZ.out 6
        have f7 := Blk.frozen HZ.out 7
        have f8 := Blk.frozen HZ.out 8
        have f9 := Blk.frozen HZ.out 9
        dsimp only [zT, zA] at z0 z1 z2 z3 z4 z5 z6 z7 z8 z9
        clear z10
        clear h10
        go_wp2_with fail
        have hdone := (HKS.out.put (t := ⟨t.op, t.kids, t.rune, t.set, 1, t.cap, t.name, t.mn, t.mx, t.lzy⟩) (a := ⟨B, ys.length, d, sA, sn, sc⟩) (g := w.heap.size + 1) (by omega) (by have := HSZ.out; omega)).done (op := t.op) (rune := t.rune) (at_ := 1) (cap := t.cap) (mn := t.mn) (mx := t.mx) (name := t.name) (lzy := t.lzy) (wsz := w.heap.size) rfl HD1.out HD2.out HBN.out HT.out.name HB0.out
        rw [HYS.out] at hdone
        have hfin : t.turn = ⟨t.op, (ordK t).map Tr.turn, t.rune, t.set, 1, t.cap, t.name, t.mn, t.mx, t.lzy⟩ := by rw [HRES.out, HTA.out]
        rw [← hfin] at hdone
        refine tree_ret (t := ⟨t.op, t.kids, t.rune, t.set, 1, t.cap, t.name, t.mn, t.mx, t.lzy⟩) (a := ⟨B, ys.length, d, sA, sn, sc⟩) HZ.out rfl rfl ⟨_, ?_, hdone, put10_below HW.out (by omega)⟩
        rw [hfin]
        rfl
      have a2 : (t.at_ == 2) = false := beq_eq_false_iff_ne.2 e2
      by_cases e4 : t.at_ = 4
      · have a4 : (t.at_ == 4) = true := beq_iff_eq.2 e4
        have hta : turnAt t.at_ = 8 := by rw [e4]; rfl
        have HTA := Lib.hid hta
        clear e4 hta
        go_upto_region 21 with fail
        replace HX := Lib.hid (HX.out.ats 8)
        replace HZ := Lib.hid (HZ.out.far (p := ⟨w.heap.size, 4, none⟩) (by simp) (.int .i64 8))
        replace HW := Lib.hid (HW.out.setCell (p := ⟨w.heap.size, 4, none⟩) (Nat.le_refl _) (.int .i64 8))
        replace HKS := Lib.hid (HKS.out.far (p := ⟨w.heap.size, 4, none⟩) hws (by have := HSZ.out; show w.heap.size < _; omega) (.int .i64 8))
        clear c4 f4
        generalize V.setCell ⟨w.heap.size, 4, none⟩ (.int .i64 8) = V4 at HX HZ HW HKS ⊢
        have h10 := HX.out.ten
        have k0 := h10.c0
        have k1 := h10.c1
        have k2 := h10.c2
        have k3 := h10.c3
        have k4 := h10.c4
        have k5 := h10.c5
        have k6 := h10.c6
        have k7 := h10.c7
        have k8 := h10.c8
        have k9 := h10.c9
        dsimp only at k0 k1 k2 k3 k4 k5 k6 k7 k8 k9
        have z10 := HZ.out.ten
        have z0 := z10.c0
        have z1 := z10.c1
        have z2 := z10.c2
        have z3 := z10.c3
        have z4 := z10.c4
        have z5 := z10.c5
        have z6 := z10.c6
        have z7 := z10.c7
        have z8 := z10.c8
        have z9 := z10.c9
        have f0 := Blk.frozen HZ.out 0
        have f1 := Blk.frozen HZ.out 1
        have f2 := Blk.frozen HZ.out 2
        have f3 := Blk.frozen HZ.out 3
        have f4 := Blk.frozen HZ.out 4
        have f5 := Blk.frozen HZ.out 5
        have f6 := Blk.frozen HZ.out 6
        have f7 := Blk.frozen HZ.out 7
        have f8 := Blk.frozen HZ.out 8
        have f9 := Blk.frozen HZ.out 9
        dsimp only [zT, zA] at z0 z1 z2 z3 z4 z5 z6 z7 z8 z9
        clear z10
        clear h10
        go_wp2_with fail
        have hdone := (HKS.out.put (t := ⟨t.op, t.kids, t.rune, t.set, 8, t.cap, t.name, t.mn, t.mx, t.lzy⟩) (a := ⟨B, ys.length, d, sA, sn, sc⟩) (g := w.heap.size + 1) (by omega) (by have := HSZ.out; omega)).done (op := t.op) (rune := t.rune) (at_ := 8) (cap := t.cap) (mn := t.mn) (mx := t.mx) (name := t.name) (lzy := t.lzy) (wsz := w.heap.size) rfl HD1.out HD2.out HBN.out HT.out.name HB0.out
        rw [HYS.out] at hdone
        have hfin : t.turn = ⟨t.op, (ordK t).map Tr.turn, t.rune, t.set, 8, t.cap, t.name, t.mn, t.mx, t.lzy⟩ := by rw [HRES.out, HTA.out]
        rw [← hfin] at hdone
        refine tree_ret (t := ⟨t.op, t.kids, t.rune, t.set, 8, t.cap, t.name, t.mn, t.mx, t.lzy⟩) (a := ⟨B, ys.length, d, sA, sn, sc⟩) HZ.out rfl rfl ⟨_, ?_, hdone, put10_below HW.out (by omega)⟩
        rw [hfin]
        rfl
      have a4 : (t.at_ == 4) = false := beq_eq_false_iff_ne.2 e4
      by_cases e8 : t.at_ = 8
      · have a8 : (t.at_ == 8) = true := beq_iff_eq.2 e8
        have hta : turnAt t.at_ = 4 := by rw [e8]; rfl
        have HTA := Lib.hid hta
        clear e8 hta
        go_upto_region 21 with fail
        replace HX := Lib.hid (HX.out.ats 4)
        replace HZ := Lib.hid (HZ.out.far (p := ⟨w.heap.size, 4, none⟩) (by simp) (.int .i64 4))
        replace HW := Lib.hid (HW.out.setCell (p := ⟨w.heap.size, 4, none⟩) (Nat.le_refl _) (.int .i64 4))
        replace HKS := Lib.hid (HKS.out.far (p := ⟨w.heap.size, 4, none⟩) hws (by have := HSZ.out; show w.heap.size < _; omega) (.int .i64 4))
        clear c4 f4
        generalize V.setCell ⟨w.heap.size, 4, none⟩ (.int .i64 4) = V4 at HX HZ HW HKS ⊢
        have h10 := HX.out.ten
        have k0 := h10.c0
        have k1 := h10.c1
        have k2 := h10.c2
        have k3 := h10.c3
        have k4 := h10.c4
        have k5 := h10.c5
        have k6 := h10.c6
        have k7 := h10.c7
        have k8 := h10.c8
        have k9 := h10.c9
        dsimp only at k0 k1 k2 k3 k4 k5 k6 k7 k8 k9
        have z10 := HZ.out.ten
        have z0 := z10.c0
        have z1 := z10.c1
        have z2 := z10.c2
        have z3 := z10.c3
        have z4 := z10.c4
        have z5 := z10.c5
        have z6 := z10.c6
        have z7 := z10.c7
        have z8 := z10.c8
        have z9 := z10.c9
        have f0 := Blk.frozen HZ.out 0
        have f1 := Blk.frozen HZ.out 1
        have f2 := Blk.frozen HZ.out 2
        have f3 := Blk.frozen HZ.out 3
        have f4 := Blk.frozen HZ.out 4
        have f5 := Blk.frozen HZ.out 5
        have f6 := Blk.frozen HZ.out 6
        have f7 := Blk.frozen HZ.out 7
        have f8 := Blk.frozen HZ.out 8
        have f9 := Blk.frozen HZ.out 9
        dsimp only [zT, zA] at z0 z1 z2 z3 z4 z5 z6 z7 z8 z9
        clear z10
        clear h10
        go_wp2_with fail
        have hdone := (HKS.out.put (t := ⟨t.op, t.kids, t.rune, t.set, 4, t.cap, t.name, t.mn, t.mx, t.lzy⟩) (a := ⟨B, ys.length, d, sA, sn, sc⟩) (g := w.heap.size + 1) (by omega) (by have := HSZ.out; omega)).done (op := t.op) (rune := t.rune) (at_ := 4) (cap := t.cap) (mn := t.mn) (mx := t.mx) (name := t.name) (lzy := t.lzy) (wsz := w.heap.size) rfl HD1.out HD2.out HBN.out HT.out.name HB0.out
        rw [HYS.out] at hdone
        have hfin : t.turn = ⟨t.op, (ordK t).map Tr.turn, t.rune, t.set, 4, t.cap, t.name, t.mn, t.mx, t.lzy⟩ := by rw [HRES.out, HTA.out]
        rw [← hfin] at hdone
        refine tree_ret (t := ⟨t.op, t.kids, t.rune, t.set, 4, t.cap, t.name, t.mn, t.mx, t.lzy⟩) (a := ⟨B, ys.length, d, sA, sn, sc⟩) HZ.out rfl rfl ⟨_, ?_, hdone, put10_below HW.out (by omega)⟩
        rw [hfin]
        rfl
      have a8 : (t.at_ == 8) = false := beq_eq_false_iff_ne.2 e8
      have hta : turnAt t.at_ = t.at_ := by unfold turnAt; rw [if_neg e1, if_neg e2, if_neg e4, if_neg e8]
      have HTA := Lib.hid hta
      clear e1 e2 e4 e8 hta
      go_upto_region 21 with fail
      clear c4 f4
      have h10 := HX.out.ten
      have k0 := h10.c0
      have k1 := h10.c1
      have k2 := h10.c2
      have k3 := h10.c3
      have k4 := h10.c4
      have k5 := h10.c5
      have k6 := h10.c6
      have k7 := h10.c7
      have k8 := h10.c8
      have k9 := h10.c9
      dsimp only at k0 k1 k2 k3 k4 k5 k6 k7 k8 k9
      have z10 := HZ.out.ten
      have z0 := z10.c0
      have z1 := z10.c1
      have z2 := z10.c2
      have z3 := z10.c3
      have z4 := z10.c4
      have z5 := z10.c5
      have z6 := z10.c6
      have z7 := z10.c7
      have z8 := z10.c8
      have z9 := z10.c9
      have f0 := Blk.frozen HZ.out 0
      have f1 := Blk.frozen HZ.out 1
      have f2 := Blk.frozen HZ.out 2
      have f3 := Blk.frozen HZ.out 3
      have f4 := Blk.frozen HZ.out 4
      have f5 := Blk.frozen HZ.out 5
      have f6 := Blk.frozen HZ.out 6
      have f7 := Blk.frozen HZ.out 7
      have f8 := Blk.frozen HZ.out 8
      have f9 := Blk.frozen HZ.out 9
      dsimp only [zT, zA] at z0 z1 z2 z3 z4 z5 z6 z7 z8 z9
      clear z10
      clear h10
      go_wp2_with fail
      have hdone := (HKS.out.put (t := t) (a := ⟨B, ys.length, d, sA, sn, sc⟩) (g := w.heap.size + 1) (by omega) (by have := HSZ.out; omega)).done (op := t.op) (rune := t.rune) (at_ := t.at_) (cap := t.cap) (mn := t.mn) (mx := t.mx) (name := t.name) (lzy := t.lzy) (wsz := w.heap.size) rfl HD1.out HD2.out HBN.out HT.out.name HB0.out
      rw [HYS.out] at hdone
      have hfin : t.turn = ⟨t.op, (ordK t).map Tr.turn, t.rune, t.set, t.at_, t.cap, t.name, t.mn, t.mx, t.lzy⟩ := by rw [HRES.out, HTA.out]
      rw [← hfin] at hdone
      refine tree_ret (t := t) (a := ⟨B, ys.length, d, sA, sn, sc⟩) HZ.out rfl rfl ⟨_, ?_, hdone, put10_below HW.out (by omega)⟩
      rw [hfin]
      rfl
end Go.Proofs.Ytbhcgjahlfpjoaa
