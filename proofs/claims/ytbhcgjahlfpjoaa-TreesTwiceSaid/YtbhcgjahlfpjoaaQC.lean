/- Trees turned: slices.Clone of ranges, slices.Reverse of trees. A tree turned: trees.turned: the walk. A tree turned: trees.Turned, the reference's Turned: the walks. -/
import Derived.Test.YtbhcgjahlfpjoaaQB
import Derived.Test.YtbhcgjahlfpjoaaShelfT
namespace Go.Proofs.Ytbhcgjahlfpjoaa
open Go.RowKit Go.Shelf Go.Lib Go.Sort

set_option maxRecDepth 20000 in
set_option maxHeartbeats 2000000 in
theorem cloneRg_any {w : World} {A : Option Addr} {n c : Nat} {l : List Rg} (hA : RgIn w A n c l) (hn : n ≤ 20000) : Calls Try.prog 91 #[.slice A n c] w fun e w' =>
    ∃ B d, e = .returned (.slice B n d) ∧ w'.ownsRow w.heap.size 71 2 (.slice B n d) n (rgCells l) ∧ Below w.heap.size w w' := by
  have q : ∀ (w : World) (a : Option Addr) (n c n' c' : Nat), (binOp .eql 24 (.slice a n c) (.slice none n' c')).run Try.prog w = .ok (.bool a.isNone) w := fun w a n c n' c' => Lib.run_eql_slice_nil w _ _ a n c n' c' Try.underlying24
  cases A with
  | none =>
    obtain rfl := hA.nil rfl
    obtain rfl := List.eq_nil_of_length_eq_zero hA.len
    clear hA hn
    go_enter Try.func91, Try.ntmps91
    go_wp2_with fail
    go_ret
    exact ⟨none, 0, rfl, World.ownsRow_nil _ _ _ _, Below.refl _ _⟩
  | some a =>
    have hmade := World.ownsRow_made (base := w.heap.size) (size := 2) (e := 71) w #[] 0 (Nat.le_refl _) (Nat.zero_le _) rfl
    have hab0 := fun k hk => (hmade.lt k hk).1
    have hba : Below w.heap.size w (w.alloc (.cells #[] 71)) := (Below.refl _ _).alloc (Nat.le_refl _) _
    have hR1 := (hA.below hba).rd
    have hn1 := hA.nil
    have hl1 : (rgCells l).length = n * 2 := by rw [rgCells_length, hA.len]
    have h1e := rgCells_one l
    have hmx : 0 + n ≤ maxLen := by unfold maxLen; omega
    have hbt : (0 + n) * 8 ≤ 140737488355328 := by omega
    clear hA
    go_enter Try.func91, Try.ntmps91
    go_wp2_with (at_builtin; refine wpList_app _ rfl _ _ 24 rfl w.heap.size 71 elRgT _ _ _ rfl hmade 0 _ (some a) n c (rgCells l) rfl hn1 hl1 hR1 h1e hmx hbt (by simp) ?_; intro v1 V1 hv1 hg1 _ _; obtain ⟨uA, uc, rfl, hd1, hd1'⟩ := own_form hv1)
    simp only [Nat.zero_add, List.nil_append] at hv1
    have hb : Below w.heap.size w V1 := hba.grown hg1 (by simp) hab0
    go_ret
    exact ⟨uA, uc, by simp, hv1, hb⟩
instance inhTrTA : Inhabited (Tr × TA) := ⟨(zT, zA)⟩
/-- A tree's cells. -/
def encT (y : Tr × TA) : List Value := y.1.cells y.2
theorem flatT (l : List (Tr × TA)) (t : Nat) (ht : t < l.length * 10) : (flatK encT 10 l.toArray)[t]? = (tcells l)[t]? := by
  rw [Array.getElem?_eq_getElem (by simpa using ht)]
  have h1 := get_flatK encT 10 l.toArray t (by simpa using ht)
  rw [getElem!_pos _ t (by simpa using ht)] at h1
  rw [h1]
  have hp : l[t / 10]? = some l[t / 10] := List.getElem?_eq_getElem (by omega)
  have h2 : l.toArray[t / 10]! = l[t / 10] := by rw [getElem!_pos _ _ (by simp; omega)]; rfl
  rw [h2]
  have h3 : (encT l[t / 10]).length = 10 := rfl
  have h4 : (encT l[t / 10])[t % 10]? = some (encT l[t / 10])[t % 10]! := by
    rw [getElem!_pos _ _ (by rw [h3]; omega)]
    exact List.getElem?_eq_getElem (by rw [h3]; omega)
  have h5 := tcells_at hp h4
  rw [← h5]
  congr 1
  omega
theorem reverseT_any {w : World} {base : Nat} {B : Option Addr} {n c : Nat} {ys : List (Tr × TA)} (h : w.ownsRow base 27 10 (.slice B n c) n (tcells ys)) (hn : n ≤ 4000000) :
    Calls Try.prog 92 #[.slice B n c] w fun e w' => e = .returned (.tuple #[]) ∧ w'.ownsRow base 27 10 (.slice B n c) n (tcells ys.reverse) ∧ w.grownBy w' (Value.slice B n c).ownBlock := by
  have hl : ys.length = n := by have := h.1; rw [tcells_len] at this; omega
  rcases Nat.eq_zero_or_pos n with h0 | h0
  · subst h0
    have hcon := AnyQ.slices_Reverse_empty Try.reverseTr B c w
    change Calls Try.prog 92 _ _ _ at hcon
    refine hcon.mono ?_
    rintro e w' ⟨rfl, rfl⟩
    obtain rfl := List.eq_nil_of_length_eq_zero hl
    exact ⟨rfl, h, ⟨rfl, rfl, rfl, Nat.le_refl _, fun _ _ _ => rfl⟩⟩
  · obtain ⟨g, cap, hv, hgb, hgl⟩ := h.form h0
    injection hv with hv1 _ hv2
    subst hv1; subst hv2
    obtain ⟨cur, hg, _, h3, h4, h1, h2⟩ := own_blk h
    have hH : HoldsK encT 10 w g 0 ys.toArray := by
      intro j hj
      have hj' : j < ys.length * 10 := by simpa using hj
      refine ⟨?_, hg.frozen _⟩
      rw [hg.cell, Nat.zero_add, getElem!_pos _ j hj]
      have e1 := flatT ys j hj'
      rw [Array.getElem?_eq_getElem hj, ← h4, List.getElem?_take, if_pos (by omega), Array.getElem?_toList] at e1
      exact e1.symm
    have hcon := AnyQ.slices_Reverse Try.reverseTr 10 Try.isAgg27 Try.sizeOf27 encT (fun _ => rfl) (fun x v hv => tcells_one [x] v (by simpa [tcells, encT] using hv)) g 0 c ys.toArray w hH (by simp; omega)
    change Calls Try.prog 92 _ _ _ at hcon
    rw [show ys.toArray.size = n by simpa using hl] at hcon
    refine hcon.mono ?_
    rintro e w' ⟨rfl, q, rfl⟩
    have hz : ys.reverse.length = n := by rw [List.length_reverse]; exact hl
    rw [show ys.toArray.reverse = ys.reverse.toArray by simp]
    refine ⟨rfl, ?_, ?_⟩
    · have hb' : Blk (putRowK encT 10 (Sort.ahead w q) g 0 ys.reverse.toArray) g 27 (putCells id 0 (flatK encT 10 ys.reverse.toArray) cur) := by
        unfold Blk at hg ⊢
        unfold putRowK putRow mapBlock Sort.ahead
        dsimp only
        rw [Array.getElem?_modify, if_pos rfl, hg]
        rfl
      refine ⟨by rw [tcells_len, hz], .inr ⟨g, c, _, rfl, hgb, hb', h1, h2, by simpa [putCells] using h3, ?_⟩⟩
      apply List.ext_getElem?
      intro t
      rw [List.getElem?_take]
      by_cases ht : t < n * 10
      · rw [if_pos ht, Array.getElem?_toList]
        have hf := flatT ys.reverse t (by omega)
        rw [← hf]
        have htc : t < cur.size := by
          have : n * 10 ≤ c * 10 := Nat.mul_le_mul_right _ h1
          omega
        simp only [putCells, Array.getElem?_mapIdx, Array.getElem?_eq_getElem htc, Option.map_some]
        rw [if_pos (by rw [size_flatK]; simp; omega), Array.getElem?_eq_getElem (by rw [size_flatK]; simp; omega), getElem!_pos _ _ (by rw [size_flatK]; simp; omega)]
        rfl
      · rw [if_neg ht, List.getElem?_eq_none (by rw [tcells_len]; omega)]
    · refine ⟨rfl, rfl, rfl, ?_, fun k _ hk => ?_⟩
      · simp [putRowK, putRow, mapBlock, Sort.ahead]
      · unfold putRowK putRow mapBlock Sort.ahead
        dsimp only
        rw [Array.getElem?_modify, if_neg (by intro e; exact hk (by rw [← e]; rfl))]
end Go.Proofs.Ytbhcgjahlfpjoaa
namespace Go.Proofs.Ytbhcgjahlfpjoaa
open Go.RowKit

/-- The row is turned. -/
theorem KSt.rev {m0 base : Nat} {W V : World} {ys : List (Tr × TA)} {v : Value} {s : List Rg} {sA : Option Addr} {sn sc : Nat} (h : KSt m0 base W ys v s sA sn sc) (hown : V.ownsRow base 27 10 v ys.length (tcells ys.reverse)) (hg : W.grownBy V v.ownBlock) : KSt m0 base V ys.reverse v s sA sn sc := by
  have key : ∀ b, ((b < m0 ∨ base ≤ b) ∧ v.ownBlock ≠ some b) → b < W.heap.size → V.heap[b]? = W.heap[b]? := fun b hb hlt => hg.block b hlt (fun e => hb.2 e.symm)
  exact ⟨⟨by rw [List.length_reverse]; exact hown, fun y hy => (h.row.kids y (List.mem_reverse.1 hy)).keep key hg.size⟩, h.set.keep key hg.size⟩

set_option maxRecDepth 20000 in
set_option maxHeartbeats 8000000 in
theorem pturned_any : ∀ (t : Tr) {ws w : World} {kA : Option Addr} {kn kc : Nat} {sA : Option Addr} {sn sc : Nat}, TIn ws t ⟨kA, kn, kc, sA, sn, sc⟩ → Below ws.heap.size ws w → t.parts ≤ 20000 → OneP t → Calls Try.prog 67 #[.agg #[.int .i64 t.op, .slice kA kn kc, .int .i32 t.rune, .slice sA sn sc, .int .i64 t.at_, .int .i64 t.cap, .string t.name, .int .i64 t.mn, .int .i64 t.mx, .bool t.lzy]] w (BuiltB (t.turn) ws.heap.size w) := by
  intro t
  induction t using Tr.ind with
  | h t ih =>
  intro ws w kA kn kc sA sn sc hT hbs hp h1
  have hws := hbs.size
  have hX := (TBox.newV w t kA kn kc sA sn sc).below (show Below _ _ ((w.alloc (.cells #[.int .i64 t.op, .slice kA kn kc, .int .i32 t.rune, .slice sA sn sc, .int .i64 t.at_, .int .i64 t.cap, .string t.name, .int .i64 t.mn, .int .i64 t.mx, .bool t.lzy] 27)).alloc (.cells #[.int .i64 0, .slice none 0 0, .int .i32 0, .slice none 0 0, .int .i64 0, .int .i64 0, .string ⟨#[]⟩, .int .i64 0, .int .i64 0, .bool false] 27)) from (Below.refl _ _).alloc (Nat.le_refl _) _)
  have hZ := zbox (w.alloc (.cells #[.int .i64 t.op, .slice kA kn kc, .int .i32 t.rune, .slice sA sn sc, .int .i64 t.at_, .int .i64 t.cap, .string t.name, .int .i64 t.mn, .int .i64 t.mx, .bool t.lzy] 27))
  rw [World.size_alloc] at hZ
  have hb : Below w.heap.size w ((w.alloc (.cells #[.int .i64 t.op, .slice kA kn kc, .int .i32 t.rune, .slice sA sn sc, .int .i64 t.at_, .int .i64 t.cap, .string t.name, .int .i64 t.mn, .int .i64 t.mx, .bool t.lzy] 27)).alloc (.cells #[.int .i64 0, .slice none 0 0, .int .i32 0, .slice none 0 0, .int .i64 0, .int .i64 0, .string ⟨#[]⟩, .int .i64 0, .int .i64 0, .bool false] 27)) := ((Below.refl _ _).alloc (Nat.le_refl _) _).alloc (by rw [World.size_alloc]; omega) _
  have hsz : ((w.alloc (.cells #[.int .i64 t.op, .slice kA kn kc, .int .i32 t.rune, .slice sA sn sc, .int .i64 t.at_, .int .i64 t.cap, .string t.name, .int .i64 t.mn, .int .i64 t.mx, .bool t.lzy] 27)).alloc (.cells #[.int .i64 0, .slice none 0 0, .int .i32 0, .slice none 0 0, .int .i64 0, .int .i64 0, .string ⟨#[]⟩, .int .i64 0, .int .i64 0, .bool false] 27)).heap.size = w.heap.size + 2 := by simp
  have hkp : ∀ k ∈ t.kids, k.parts ≤ 20000 := fun k hk => by have := Tr.partsL_le hk; rw [Tr.parts_eq] at hp; omega
  obtain ⟨ka, hK⟩ := hT.kidsV
  have hkn : kn ≤ 20000 := by have := Tr.len_le_partsL t.kids; rw [Tr.parts_eq] at hp; have := hK.len; omega
  have h10 := hX.ten
  have k0 := h10.c0
  have k1 := h10.c1
  have k2 := h10.c2
  have k3 := h10.c3
  have k4 := h10.c4
  have k5 := h10.c5
  have k6 := h10.c6
  have k7 := h10.c7
  have k8 := h10.c8
  have k9 := h10.c9
  dsimp only at k1 k3
  have HT := Lib.hid hT
  have HK := Lib.hid hK
  have HB := Lib.hid hb
  have HBS := Lib.hid hbs
  have HX := Lib.hid hX
  have HZ := Lib.hid hZ
  have HP := Lib.hid hkp
  have IH := Lib.hid ih
  have HSZ := Lib.hid hsz
  have hsn : sn ≤ 20000 := by have := hT.set.len; dsimp only at this; rw [Tr.parts_eq] at hp; omega
  have H1 := Lib.hid h1
  clear hb hX hZ hkp ih hT hp h10 hK hbs hsz h1
  go_enter Try.func67, Try.ntmps67
  go_upto_region 1 with fail
  generalize (w.alloc (.cells #[.int .i64 t.op, .slice kA kn kc, .int .i32 t.rune, .slice sA sn sc, .int .i64 t.at_, .int .i64 t.cap, .string t.name, .int .i64 t.mn, .int .i64 t.mx, .bool t.lzy] 27)).alloc (.cells #[.int .i64 0, .slice none 0 0, .int .i32 0, .slice none 0 0, .int .i64 0, .int .i64 0, .string ⟨#[]⟩, .int .i64 0, .int .i64 0, .bool false] 27) = w0 at HB HX HZ HSZ k0 k1 k2 k3 k4 k5 k6 k7 k8 k9 ⊢
  by_cases h6 : t.op = 6
  · have d0 : (t.op == 6) = true := beq_iff_eq.2 h6
    obtain ⟨k, hkids⟩ := H1.out.self h6
    have hres : t.turn = k.turn := by rw [Tr.turn_eq, if_pos h6, hkids]; rfl
    obtain ⟨b, o, k', x, rfl, hb, hk, hx, hc⟩ := HK.out.at (i := 0) (by have := HK.out.len; rw [hkids] at this; simp at this; omega)
    obtain rfl : k = k' := by rw [hkids] at hk; simpa using hk
    have hkm : k ∈ t.kids := by rw [hkids]; simp
    have h0n : (0 : Int) < (kn : Int) := by have := HK.out.len; rw [hkids] at this; simp at this; omega
    have h10 := hc w0 (.of_below (HBS.out.trans (HB.out.mono hws)) (Nat.le_refl _))
    simp only [Nat.zero_mul, Nat.add_zero] at h10
    have q0 := h10.c0
    have q1 := h10.c1
    have q2 := h10.c2
    have q3 := h10.c3
    have q4 := h10.c4
    have q5 := h10.c5
    have q6 := h10.c6
    have q7 := h10.c7
    have q8 := h10.c8
    have q9 := h10.c9
    have hcall := IH.out k hkm hx (HBS.out.trans (HB.out.mono hws)) (HP.out k hkm) (H1.out.kid hkm)
    have HRES := Lib.hid hres
    clear h10 hc hx hk hb hkids hkm h6 hres
    go_wp2_with fail
    refine hcall.mono ?_
    rintro e W5 ⟨⟨cA, cn, cc, eA, en, ec⟩, rfl, hz, hb5⟩
    have HZ5 := Lib.hid (HZ.out.below hb5)
    have HTK := Lib.hid hz
    have HB5 := Lib.hid (HB.out.trans (hb5.mono HB.out.size))
    clear hcall hb5 hz k0 k1 k2 k3 k4 k5 k6 k7 k8 k9 q0 q1 q2 q3 q4 q5 q6 q7 q8 q9
    have z10 := HZ5.out.ten
    have z0 := z10.c0
    have z1 := z10.c1
    have z2 := z10.c2
    have z3 := z10.c3
    have z4 := z10.c4
    have z5 := z10.c5
    have z6 := z10.c6
    have z7 := z10.c7
    have z8 := z10.c8
    have z9 := z10.c9
    have f0 := Blk.frozen HZ5.out 0
    have f1 := Blk.frozen HZ5.out 1
    have f2 := Blk.frozen HZ5.out 2
    have f3 := Blk.frozen HZ5.out 3
    have f4 := Blk.frozen HZ5.out 4
    have f5 := Blk.frozen HZ5.out 5
    have f6 := Blk.frozen HZ5.out 6
    have f7 := Blk.frozen HZ5.out 7
    have f8 := Blk.frozen HZ5.out 8
    have f9 := Blk.frozen HZ5.out 9
    dsimp only [zT, zA] at z0 z1 z2 z3 z4 z5 z6 z7 z8 z9
    clear z10
    simp only [Tr.cells]
    go_wp2_with fail
    have hfin := (HTK.out.put (g := w.heap.size + 1) (t := k.turn) (a := ⟨cA, cn, cc, eA, en, ec⟩) (by have := HSZ.out; omega)).mono (ok' := fun b => b < ws.heap.size ∨ w.heap.size ≤ b) fun b _ hb => by have := HSZ.out; omega
    rw [← HRES.out] at hfin
    refine tree_ret (t := k.turn) (a := ⟨cA, cn, cc, eA, en, ec⟩) HZ5.out rfl rfl ?_
    rw [← HRES.out]
    exact ⟨_, rfl, hfin, put10_below HB5.out (by omega)⟩
  have d0 : (t.op == 6) = false := beq_eq_false_iff_ne.2 h6
  have hres : t.turn = ⟨t.op, if t.op = 11 then (t.kids.map Tr.turn).reverse else t.kids.map Tr.turn, t.rune, t.set, turnAt t.at_, t.cap, t.name, t.mn, t.mx, t.lzy⟩ := by rw [Tr.turn_eq, if_neg h6]
  have HRES := Lib.hid hres
  clear h6 hres
  have hO := TBox.newV w0 t kA kn kc sA sn sc
  have hb1 : Below w0.heap.size w0 (w0.alloc (.cells #[.int .i64 t.op, .slice kA kn kc, .int .i32 t.rune, .slice sA sn sc, .int .i64 t.at_, .int .i64 t.cap, .string t.name, .int .i64 t.mn, .int .i64 t.mx, .bool t.lzy] 27)) := (Below.refl _ _).alloc (Nat.le_refl _) _
  have hQ1 : (w0.alloc (.cells #[.int .i64 t.op, .slice kA kn kc, .int .i32 t.rune, .slice sA sn sc, .int .i64 t.at_, .int .i64 t.cap, .string t.name, .int .i64 t.mn, .int .i64 t.mx, .bool t.lzy] 27)).heap.size = w0.heap.size + 1 := by simp
  go_upto_region 4 with fail
  have HB0 : Hid (w.heap.size ≤ w0.heap.size + 1) := Lib.hid (by have := HSZ.out; omega)
  have HB0' : Hid (w.heap.size ≤ w0.heap.size) := Lib.hid (by have := HSZ.out; omega)
  have hbx1 := HX.out.below hb1
  have hz1 := HZ.out.below hb1
  have hw1 := HB.out.trans (hb1.mono HB.out.size)
  clear k0 k1 k2 k3 k4 k5 k6 k7 k8 k9 HX HZ HB hb1
  generalize w0.alloc (.cells #[.int .i64 t.op, .slice kA kn kc, .int .i32 t.rune, .slice sA sn sc, .int .i64 t.at_, .int .i64 t.cap, .string t.name, .int .i64 t.mn, .int .i64 t.mx, .bool t.lzy] 27) = w1 at hO hQ1 hbx1 hz1 hw1 ⊢
  have hsb := HT.out.set.below (HBS.out.trans (hw1.mono hws))
  dsimp only at hsb
  have hcl := cloneRg_any hsb hsn
  have HSET := Lib.hid hsb
  have q3 := hbx1.ten.c3
  dsimp only at q3
  have HO1 := Lib.hid hO
  have HBX1 := Lib.hid hbx1
  have HZ1 := Lib.hid hz1
  have HW1 := Lib.hid hw1
  have HQ1 := Lib.hid hQ1
  clear hO hbx1 hz1 hw1 hQ1 hsb
  go_wp2_with fail
  refine hcl.mono ?_
  rintro e V1 ⟨uA, uc, rfl, hv1, hb1⟩
  have HO := Lib.hid (HO1.out.below hb1)
  have HBX := Lib.hid (HBX1.out.below hb1)
  have HZ := Lib.hid (HZ1.out.below hb1)
  have HW := Lib.hid (HW1.out.trans (hb1.mono HW1.out.size))
  have HQ : Hid (w0.heap.size + 1 ≤ V1.heap.size) := Lib.hid (by have := hb1.size; have := HQ1.out; omega)
  have HV1 := Lib.hid hv1
  have g3 := HO.out.ten.c3
  have f3 := Blk.frozen HO.out 3
  have hO3 := HO.out.sets uA sn uc
  have g1 := hO3.ten.c1
  have f1 := Blk.frozen hO3 1
  dsimp only at g1 g3
  clear hcl hb1 hv1 q3 HO1 HBX1 HZ1 HW1
  have HO3 := Lib.hid hO3
  clear hO3
  go_upto_region 5 with fail
  have hset1 : TOk V1 (fun b => b < ws.heap.size ∨ w0.heap.size + 1 ≤ b) (leafS t.set) ⟨none, 0, 0, uA, sn, uc⟩ := TOk.ofSet (RgIn.of_own HV1.out HSET.out.len HSET.out.fits) (fun _ q he => Or.inr (by have := (own_lt HV1.out (k := q.block) (by rw [he]; rfl)).1; have := HQ1.out; omega)) (by omega)
  have hK2 := ((KSt.nil hset1).far (p := ⟨w0.heap.size, 3, none⟩) (Nat.le_trans hws HB0'.out) (Nat.lt_succ_self _) (.slice uA sn uc)).far (p := ⟨w0.heap.size, 1, none⟩) (Nat.le_trans hws HB0'.out) (Nat.lt_succ_self _) (.slice none 0 0)
  have hO2 := HO3.out.kids none 0 0
  have hne : w.heap.size ≠ w0.heap.size := by have := HSZ.out; omega
  have hne1 : w.heap.size + 1 ≠ w0.heap.size := by have := HSZ.out; omega
  have hX2 := (HBX.out.far (p := ⟨w0.heap.size, 3, none⟩) hne (.slice uA sn uc)).far (p := ⟨w0.heap.size, 1, none⟩) hne (.slice none 0 0)
  have hZ2 := (HZ.out.far (p := ⟨w0.heap.size, 3, none⟩) hne1 (.slice uA sn uc)).far (p := ⟨w0.heap.size, 1, none⟩) hne1 (.slice none 0 0)
  have hW2 := (HW.out.setCell (p := ⟨w0.heap.size, 3, none⟩) HB0'.out (.slice uA sn uc)).setCell (p := ⟨w0.heap.size, 1, none⟩) HB0'.out (.slice none 0 0)
  have hQ2 : w0.heap.size + 1 ≤ ((V1.setCell ⟨w0.heap.size, 3, none⟩ (.slice uA sn uc)).setCell ⟨w0.heap.size, 1, none⟩ (.slice none 0 0)).heap.size := by rw [World.size_setCell, World.size_setCell]; exact HQ.out
  clear HO HO3 HBX HZ HW HQ HV1 HSET HQ1 hset1 g1 g3 f1 f3
  generalize (V1.setCell ⟨w0.heap.size, 3, none⟩ (.slice uA sn uc)).setCell ⟨w0.heap.size, 1, none⟩ (.slice none 0 0) = W0 at hK2 hO2 hX2 hZ2 hW2 hQ2 ⊢
  have HX := Lib.hid hO2
  have HBX := Lib.hid hX2
  have HZ := Lib.hid hZ2
  have HB := Lib.hid hW2
  have HK2 := Lib.hid hK2
  have HQ := Lib.hid hQ2
  have HNE := Lib.hid hne
  have HNE1 := Lib.hid hne1
  have c1 := HBX.out.ten.c1
  dsimp only at c1
  clear hO2 hX2 hZ2 hW2 hK2 hQ2 hne hne1
  go_wp2_with fail
  clear c1
  go_loopg [23] (kn + 1) (fun q i W => ∃ (j : Nat) (ys : List (Tr × TA)) (B : Option Addr) (d : Nat), q = kn + 1 - j ∧ j ≤ kn ∧ i = .int .i64 (j : Int) ∧ Hid (ys.map (·.1) = (t.kids.take j).map Tr.turn) ∧ Hid (KSt ws.heap.size (w0.heap.size + 1) W ys (.slice B ys.length d) t.set uA sn uc) ∧ Hid (TBox W w0.heap.size t ⟨B, ys.length, d, uA, sn, uc⟩) ∧ Hid (TBox W w.heap.size t ⟨kA, kn, kc, sA, sn, sc⟩) ∧ Hid (TBox W (w.heap.size + 1) zT zA) ∧ Hid (Below w.heap.size w W) ∧ Hid (w0.heap.size + 1 ≤ W.heap.size))
  case atStart => exact ⟨0, [], none, 0, rfl, Nat.zero_le _, rfl, Lib.hid rfl, HK2, HX, HBX, HZ, HB, HQ⟩
  case round =>
    clear HX HBX HZ HB HK2 HQ
    obtain ⟨j, ys, B, d, hgk, hj, rfl, HYS, HKS, HX, HBX, HZ, HW, HQ⟩ := hrel
    have HG := Lib.hid hgk
    have HJ := Lib.hid hj
    have hyl : ys.length = j := by
      have h1 := congrArg List.length HYS.out
      rw [List.length_map, List.length_map, List.length_take, HK.out.len] at h1
      omega
    have HYL := Lib.hid hyl
    clear hgk hj hyl
    by_cases hlt : j < kn
    · obtain ⟨b, o, k, x, rfl, hb, hk, hx, hc⟩ := HK.out.at hlt
      have hi : (j : Int) < (kn : Int) := by omega
      have h10 := hc wr (.of_below (HBS.out.trans (HW.out.mono hws)) (Nat.le_refl _))
      have k0 := h10.c0
      have k1 := h10.c1
      have k2 := h10.c2
      have k3 := h10.c3
      have k4 := h10.c4
      have k5 := h10.c5
      have k6 := h10.c6
      have k7 := h10.c7
      have k8 := h10.c8
      have k9 := h10.c9
      have HLT := Lib.hid hlt
      have HKK := Lib.hid hk
      have HX5 := Lib.hid hx
      clear hx hk hb hlt hc h10
      have hbk := TBox.newA wr k x
      have ha : Below wr.heap.size wr (wr.alloc (.cells #[.int .i64 k.op, .slice x.kA x.kn x.kc, .int .i32 k.rune, .slice x.sA x.sn x.sc, .int .i64 k.at_, .int .i64 k.cap, .string k.name, .int .i64 k.mn, .int .i64 k.mx, .bool k.lzy] 27)) := (Below.refl _ _).alloc (Nat.le_refl _) _
      go_upto_region 8 with fail
      obtain ⟨bk, hbkE⟩ : ∃ bk, wr.heap.size = bk := ⟨_, rfl⟩
      rw [hbkE] at hbk ⊢
      have had : Below wr.heap.size wr (wr.alloc (.cells #[.int .i64 k.op, .slice x.kA x.kn x.kc, .int .i32 k.rune, .slice x.sA x.sn x.sc, .int .i64 k.at_, .int .i64 k.cap, .string k.name, .int .i64 k.mn, .int .i64 k.mx, .bool k.lzy] 27)).drew := ha.drew
      have hbq : w0.heap.size + 1 ≤ bk := by rw [← hbkE]; exact HQ.out
      have hown0 : ∀ q, (Value.slice B ys.length d).ownBlock = some q → q < bk := fun q hq => by rw [← hbkE]; exact (own_lt HKS.out.row.own hq).2
      have HBK : Hid (TBox (wr.alloc (.cells #[.int .i64 k.op, .slice x.kA x.kn x.kc, .int .i32 k.rune, .slice x.sA x.sn x.sc, .int .i64 k.at_, .int .i64 k.cap, .string k.name, .int .i64 k.mn, .int .i64 k.mx, .bool k.lzy] 27)).drew bk k x) := Lib.hid (hbk.below (Below.refl _ _).drew)
      have HOB := Lib.hid hown0
      have HBQ := Lib.hid hbq
      replace HKS := Lib.hid (HKS.out.below had)
      replace HX := Lib.hid (HX.out.below had)
      replace HBX := Lib.hid (HBX.out.below had)
      replace HZ := Lib.hid (HZ.out.below had)
      replace HQ : Hid (w0.heap.size + 1 ≤ (wr.alloc (.cells #[.int .i64 k.op, .slice x.kA x.kn x.kc, .int .i32 k.rune, .slice x.sA x.sn x.sc, .int .i64 k.at_, .int .i64 k.cap, .string k.name, .int .i64 k.mn, .int .i64 k.mx, .bool k.lzy] 27)).drew.heap.size) := Lib.hid (Nat.le_trans HQ.out had.size)
      replace HW := Lib.hid (HW.out.trans (had.mono HW.out.size))
      clear hbk ha had hbq hown0 hbkE k0 k1 k2 k3 k4 k5 k6 k7 k8 k9
      have hSall : ∀ (V : World), TBox V w0.heap.size t ⟨B, ys.length, d, uA, sn, uc⟩ → TBox V bk k x → V.cell? ⟨w0.heap.size, 1, none⟩ = some (.slice B ys.length d) ∧ V.cell? ⟨bk, 0, none⟩ = some (.int .i64 k.op) ∧ V.cell? ⟨bk, 1, none⟩ = some (.slice x.kA x.kn x.kc) ∧ V.cell? ⟨bk, 2, none⟩ = some (.int .i32 k.rune) ∧ V.cell? ⟨bk, 3, none⟩ = some (.slice x.sA x.sn x.sc) ∧ V.cell? ⟨bk, 4, none⟩ = some (.int .i64 k.at_) ∧ V.cell? ⟨bk, 5, none⟩ = some (.int .i64 k.cap) ∧ V.cell? ⟨bk, 6, none⟩ = some (.string k.name) ∧ V.cell? ⟨bk, 7, none⟩ = some (.int .i64 k.mn) ∧ V.cell? ⟨bk, 8, none⟩ = some (.int .i64 k.mx) ∧ V.cell? ⟨bk, 9, none⟩ = some (.bool k.lzy) := fun V hBx hBk => by
        have a1 := hBx.ten.c1
        dsimp only at a1
        have h10 := hBk.ten
        exact ⟨a1, h10.c0, h10.c1, h10.c2, h10.c3, h10.c4, h10.c5, h10.c6, h10.c7, h10.c8, h10.c9⟩
      have HS := Lib.hid hSall
      clear hSall
      have hS := HS.out _ HX.out HBK.out
      refine wp_region_T (S := fun w' => w'.cell? ⟨w0.heap.size, 1, none⟩ = some (.slice B ys.length d) ∧ w'.cell? ⟨bk, 0, none⟩ = some (.int .i64 k.op) ∧ w'.cell? ⟨bk, 1, none⟩ = some (.slice x.kA x.kn x.kc) ∧ w'.cell? ⟨bk, 2, none⟩ = some (.int .i32 k.rune) ∧ w'.cell? ⟨bk, 3, none⟩ = some (.slice x.sA x.sn x.sc) ∧ w'.cell? ⟨bk, 4, none⟩ = some (.int .i64 k.at_) ∧ w'.cell? ⟨bk, 5, none⟩ = some (.int .i64 k.cap) ∧ w'.cell? ⟨bk, 6, none⟩ = some (.string k.name) ∧ w'.cell? ⟨bk, 7, none⟩ = some (.int .i64 k.mn) ∧ w'.cell? ⟨bk, 8, none⟩ = some (.int .i64 k.mx) ∧ w'.cell? ⟨bk, 9, none⟩ = some (.bool k.lzy)) (t := 7) (by kernel_rfl) ?_
      generalize (wr.alloc (.cells #[.int .i64 k.op, .slice x.kA x.kn x.kc, .int .i32 k.rune, .slice x.sA x.sn x.sc, .int .i64 k.at_, .int .i64 k.cap, .string k.name, .int .i64 k.mn, .int .i64 k.mx, .bool k.lzy] 27)).drew = W1 at HW HKS HX HBX HBK HZ HQ hS ⊢
      refine wpAnyT_take (i := 0) (v := ?_) rfl (by kernel_rfl) (by kernel_rfl) (by kernel_rfl) (fun _ _ _ h => h) (by kernel_rfl) (Or.inl ⟨by rfl, ?_⟩) hS ?_
      rotate_left
      · (intro w _; go_simp; try with_reducible rfl)
      try simp only [List.getElem_toArray, List.getElem_cons_zero, Act.put, List.setIfInBounds_toArray, List.set_cons_zero, List.set_cons_succ]
      refine wpAnyT_take (i := 1) (v := ?_) rfl (by kernel_rfl) (by kernel_rfl) (by kernel_rfl) (fun _ _ _ h => h) (by kernel_rfl) (Or.inl ⟨by rfl, ?_⟩) hS ?_
      rotate_left
      · (intro w hS; obtain ⟨s0, s1, s2, s3, s4, s5, s6, s7, s8, s9, s10⟩ := hS; go_simp; try with_reducible rfl)
      try simp only [List.getElem_toArray, List.getElem_cons_succ, List.getElem_cons_zero, Act.put, List.setIfInBounds_toArray, List.set_cons_zero, List.set_cons_succ]
      refine wpAnyT_take (i := 2) (v := ?_) rfl (by kernel_rfl) (by kernel_rfl) (by kernel_rfl) (fun _ _ _ h => h) (by kernel_rfl) (Or.inl ⟨by rfl, ?_⟩) hS ?_
      rotate_left
      · (intro w hS; obtain ⟨s0, s1, s2, s3, s4, s5, s6, s7, s8, s9, s10⟩ := hS; go_simp; try with_reducible rfl)
      try simp only [List.getElem_toArray, List.getElem_cons_succ, List.getElem_cons_zero, Act.put, List.setIfInBounds_toArray, List.set_cons_zero, List.set_cons_succ]
      refine wpAnyT_one (i := 3) (by kernel_rfl) rfl (fun K hK => ?_)
      go_simp
      refine (IH.out k (List.mem_of_getElem? HKK.out) HX5.out (HBS.out.trans (HW.out.mono hws)) (HP.out k (List.mem_of_getElem? HKK.out)) (H1.out.kid (List.mem_of_getElem? HKK.out))).mono ?_
      rintro e W5 ⟨⟨cA, cn, cc, eA, en, ec⟩, rfl, hz, hb5⟩
      have hz2 := HKS.out.kid (z := (k.turn, ⟨cA, cn, cc, eA, en, ec⟩)) (Nat.le_trans hws HB0.out) hz HQ.out
      replace HKS := Lib.hid (HKS.out.below hb5)
      replace HX := Lib.hid (HX.out.below hb5)
      replace HBX := Lib.hid (HBX.out.below hb5)
      replace HBK := Lib.hid (HBK.out.below hb5)
      replace HZ := Lib.hid (HZ.out.below hb5)
      replace HW := Lib.hid (HW.out.trans (hb5.mono HW.out.size))
      replace HQ := Lib.hid (Nat.le_trans HQ.out hb5.size)
      have HZK := Lib.hid hz2
      clear hz hz2 hb5
      simp only [Tr.cells]
      go_simp
      replace hS := HS.out _ HX.out HBK.out
      refine hK _ _ (Or.inr hS) ?_
      clear hK K
      try simp only [Array.getInternal_eq_getElem, List.getElem_toArray, List.getElem_cons_succ, List.getElem_cons_zero, Act.put, List.setIfInBounds_toArray, List.set_cons_zero, List.set_cons_succ]
      refine wpAnyT_one (i := 4) (by kernel_rfl) rfl (fun K hK => ?_)
      go_simp
      replace hS := HS.out (W5.alloc (.cells #[.int .i64 k.turn.op, .slice cA cn cc, .int .i32 k.turn.rune, .slice eA en ec, .int .i64 k.turn.at_, .int .i64 k.turn.cap, .string k.turn.name, .int .i64 k.turn.mn, .int .i64 k.turn.mx, .bool k.turn.lzy] 27)) (HX.out.below ((Below.refl _ _).alloc (Nat.le_refl _) _)) (HBK.out.below ((Below.refl _ _).alloc (Nat.le_refl _) _))
      refine hK _ _ (Or.inr hS) ?_
      clear hK K
      try simp only [Array.getInternal_eq_getElem, List.getElem_toArray, List.getElem_cons_succ, List.getElem_cons_zero, Act.put, List.setIfInBounds_toArray, List.set_cons_zero, List.set_cons_succ]
      refine wpAnyT_one (i := 5) (by kernel_rfl) rfl (fun K hK => ?_)
      simp only [Region.wanted]
      have hown := HKS.out.row.own
      have hq5 := HQ.out
      have hbq := HBQ.out
      have hn0 : (Value.slice B ys.length d).ownBlock ≠ some w0.heap.size := fun e => by have := (own_lt hown e).1; omega
      have hn1 : (Value.slice B ys.length d).ownBlock ≠ some w.heap.size := fun e => by have := (own_lt hown e).1; have := HB0'.out; omega
      have hn2 : (Value.slice B ys.length d).ownBlock ≠ some (w.heap.size + 1) := fun e => by have := (own_lt hown e).1; have := HSZ.out; omega
      have hn3 : (Value.slice B ys.length d).ownBlock ≠ some bk := fun e => by have := HOB.out _ e; omega
      have hyl2 : ys.length ≤ 20000 := by have := HYL.out; have := HLT.out; omega
      refine wp_app _ (.tmp 28) (.tmp 31) 23 (by rfl) (w0.heap.size + 1) 27 elTr (.slice B ys.length d) ys.length (tcells ys) (by rfl) (hown.alloc _) 0 (W5.heap.size + 1) (some ⟨W5.heap.size, 0, none⟩) 1 1 (Tr.cells k.turn ⟨cA, cn, cc, eA, en, ec⟩) (by rfl) (fun h => by cases h) rfl (Rd.new W5 _ _ _ (Nat.zero_le _) (by omega)) (fun u hu => tcells_one [(k.turn, ⟨cA, cn, cc, eA, en, ec⟩)] u (by simpa [tcells] using hu)) (by unfold maxLen; omega) (by omega) (by simp; omega) ?_
      intro v2 W2 hv2 hg2 hat2 _
      obtain ⟨B2, d2, rfl, hd2, hd2'⟩ := own_form hv2
      have ha5 : Below W5.heap.size W5 (W5.alloc (.cells #[.int .i64 k.turn.op, .slice cA cn cc, .int .i32 k.turn.rune, .slice eA en ec, .int .i64 k.turn.at_, .int .i64 k.turn.cap, .string k.turn.name, .int .i64 k.turn.mn, .int .i64 k.turn.mx, .bool k.turn.lzy] 27)) := (Below.refl _ _).alloc (Nat.le_refl _) _
      have hX2 := (HX.out.below ha5).grown hg2 hn0
      have hB2 := (HBX.out.below ha5).grown hg2 hn1
      have hZ2 := (HZ.out.below ha5).grown hg2 hn2
      have hBk2 := (HBK.out.below ha5).grown hg2 hn3
      have hK2 := HKS.out.snoc HZK.out hv2 hg2 hat2
      have hW2 : Below w.heap.size w W2 := (HW.out.trans (ha5.mono HW.out.size)).grown hg2 (by have := HW.out.size; simp; omega) (fun q hq => by have := (own_lt hown hq).1; have := HB0.out; omega)
      have hQ2 : w0.heap.size + 1 ≤ W2.heap.size := by have := hg2.size; rw [World.size_alloc] at this; omega
      have hS3 := HS.out W2 hX2 hBk2
      have g1 := hX2.ten.c1
      have f1 := Blk.frozen hX2 1
      dsimp only at g1
      replace hS := hS3
      refine hK _ _ (Or.inr hS) ?_
      clear hK K
      try simp only [List.getElem_toArray, List.getElem_cons_succ, List.getElem_cons_zero, Act.put, List.setIfInBounds_toArray, List.set_cons_zero, List.set_cons_succ]
      refine wpAnyT_take (i := 6) (v := ?_) rfl (by kernel_rfl) (by kernel_rfl) (by kernel_rfl) (fun _ _ _ h => h) (by kernel_rfl) (Or.inl ⟨by rfl, ?_⟩) hS ?_
      rotate_left
      · (intro w _; go_simp; try with_reducible rfl)
      try simp only [List.getElem_toArray, List.getElem_cons_succ, List.getElem_cons_zero, Act.put, List.setIfInBounds_toArray, List.set_cons_zero, List.set_cons_succ]
      refine wpAnyT_one (i := 7) (by kernel_rfl) rfl (fun K hK => ?_)
      go_simp
      have hlen : (ys ++ [(k.turn, (⟨cA, cn, cc, eA, en, ec⟩ : TA))]).length = ys.length + 1 := by simp
      have HX3 : Hid (TBox (W2.setCell ⟨w0.heap.size, 1, none⟩ (.slice B2 (ys.length + 1) d2)) w0.heap.size t ⟨B2, (ys ++ [(k.turn, (⟨cA, cn, cc, eA, en, ec⟩ : TA))]).length, d2, uA, sn, uc⟩) := Lib.hid (by rw [hlen]; exact hX2.kids B2 _ d2)
      have HBX3 : Hid (TBox (W2.setCell ⟨w0.heap.size, 1, none⟩ (.slice B2 (ys.length + 1) d2)) w.heap.size t ⟨some ⟨b, o, none⟩, kn, kc, sA, sn, sc⟩) := Lib.hid (hB2.far HNE.out _)
      have HZ3 : Hid (TBox (W2.setCell ⟨w0.heap.size, 1, none⟩ (.slice B2 (ys.length + 1) d2)) (w.heap.size + 1) zT zA) := Lib.hid (hZ2.far HNE1.out _)
      have HK3 : Hid (KSt ws.heap.size (w0.heap.size + 1) (W2.setCell ⟨w0.heap.size, 1, none⟩ (.slice B2 (ys.length + 1) d2)) (ys ++ [(k.turn, (⟨cA, cn, cc, eA, en, ec⟩ : TA))]) (.slice B2 (ys ++ [(k.turn, (⟨cA, cn, cc, eA, en, ec⟩ : TA))]).length d2) t.set uA sn uc) := Lib.hid (by rw [hlen]; exact hK2.far (Nat.le_trans hws HB0'.out) (Nat.lt_succ_self _) _)
      have HW3 : Hid (Below w.heap.size w (W2.setCell ⟨w0.heap.size, 1, none⟩ (.slice B2 (ys.length + 1) d2))) := Lib.hid (hW2.setCell HB0'.out _)
      have HQ3 : Hid (w0.heap.size + 1 ≤ (W2.setCell ⟨w0.heap.size, 1, none⟩ (.slice B2 (ys.length + 1) d2)).heap.size) := Lib.hid (by rw [World.size_setCell]; exact hQ2)
      have HY3 : Hid ((ys ++ [(k.turn, (⟨cA, cn, cc, eA, en, ec⟩ : TA))]).map (·.1) = (t.kids.take (j + 1)).map Tr.turn) := Lib.hid (by rw [List.map_append, HYS.out, take_snoc HKK.out, List.map_append]; rfl)
      clear hX2 hZ2 hK2 hW2 hQ2 hS3 g1 f1 ha5 hv2 hg2 hat2 hown hq5 hn0 hn1 hn2 hn3 hyl2 hlen hd2 hd2' hB2 hBk2 hbq
      refine hK _ _ (Or.inl rfl) ?_
      clear hK K
      try simp only [Array.getInternal_eq_getElem, List.getElem_toArray, List.getElem_cons_succ, List.getElem_cons_zero, Act.put, List.setIfInBounds_toArray, List.set_cons_zero, List.set_cons_succ]
      refine wpAnyT_done (by kernel_rfl) ?_ _
      clear hS HX HBX HBK HZ HKS HW HQ HYS
      go_wp2_with fail
      go_roundg (kn + 1 - (j + 1))
      case measure => have := HG.out; have := HLT.out; omega
      case rel => exact ⟨j + 1, _, B2, d2, rfl, by have := HLT.out; omega, by go_num, HY3, HK3, HX3, HBX3, HZ3, HW3, HQ3⟩
    · have hi : ¬ (j : Int) < (kn : Int) := by omega
      have hall : t.kids.take j = t.kids := by rw [show j = t.kids.length by have := HK.out.len; have := HJ.out; omega, List.take_length]
      rw [hall] at HYS
      have hy2 : ys.length ≤ 4000000 := by have := HYL.out; have := HJ.out; omega
      have c0 := HBX.out.ten.c0
      have g1 := HX.out.ten.c1
      dsimp only at g1
      clear hlt hall
      have hB1 : (B = none → ys.length = 0) := fun e => by
        rcases HKS.out.row.own.2 with ⟨h0, _⟩ | ⟨g, cap, cur, h0, _⟩
        · injection h0
        · rw [e] at h0; injection h0 with h0; cases h0
      obtain ⟨B', d', hf', hd1, hd2⟩ := own_form HKS.out.row.own
      injection hf' with e1 _ e2
      subst e1
      subst e2
      have HD1 := Lib.hid hd1
      have HD2 := Lib.hid hd2
      have HBN := Lib.hid hB1
      clear hd1 hd2 hB1
      by_cases h11 : t.op = 11
      · have d11 : (t.op == 11) = true := beq_iff_eq.2 h11
        replace HRES := Lib.hid (by have := HRES.out; rw [if_pos h11] at this; exact this)
        have hrev := reverseT_any HKS.out.row.own hy2
        clear h11
        go_wp2_with fail
        refine hrev.mono ?_
        rintro e V ⟨rfl, hown, hgr⟩
        have hown0 := HKS.out.row.own
        have hlo := fun q (hq : (Value.slice B ys.length d).ownBlock = some q) => (own_lt hown0 hq).1
        have hX2 := HX.out.grown hgr (fun e => by have := hlo _ e; omega)
        have hB2 := HBX.out.grown hgr (fun e => by have := hlo _ e; have := HB0'.out; omega)
        have hZ2 := HZ.out.grown hgr (fun e => by have := hlo _ e; have := HSZ.out; omega)
        have hW2 := HW.out.grown hgr HW.out.size (fun q hq => by have := hlo _ hq; have := HB0.out; omega)
        have hK2 := HKS.out.rev hown hgr
        have HYF : Hid (ys.reverse.map (·.1) = (t.kids.map Tr.turn).reverse) := Lib.hid (by rw [List.map_reverse, HYS.out])
        have HLN : Hid (ys.length = ys.reverse.length) := Lib.hid List.length_reverse.symm
        clear HX HBX HZ HW HKS HQ hrev hown hgr hown0 hlo c0 g1
        have HX := Lib.hid hX2
        have HBX := Lib.hid hB2
        have HZ := Lib.hid hZ2
        have HW := Lib.hid hW2
        have HKS := Lib.hid hK2
        clear hX2 hB2 hZ2 hW2 hK2
        go_upto_region 12 with fail
        have c4 := HBX.out.ten.c4
        have g4 := HX.out.ten.c4
        have f4 := Blk.frozen HX.out 4
        by_cases e1 : t.at_ = 1
        · have a1 : (t.at_ == 1) = true := beq_iff_eq.2 e1
          have s1 : (3 : Int) - t.at_ = 2 := by omega
          have w1 : IntKind.i64.wrap 2 = 2 := rfl
          have hta : turnAt t.at_ = 2 := by rw [e1]; rfl
          have HTA := Lib.hid hta
          clear e1 hta
          go_upto_region 19 with fail
          replace HX := Lib.hid (HX.out.ats 2)
          replace HZ := Lib.hid (HZ.out.far (p := ⟨w0.heap.size, 4, none⟩) (by have := HSZ.out; show w.heap.size + 1 ≠ w0.heap.size; omega) (.int .i64 2))
          replace HW := Lib.hid (HW.out.setCell (p := ⟨w0.heap.size, 4, none⟩) HB0'.out (.int .i64 2))
          replace HKS := Lib.hid (HKS.out.far (p := ⟨w0.heap.size, 4, none⟩) (Nat.le_trans hws HB0'.out) (Nat.lt_succ_self _) (.int .i64 2))
          clear c4 g4 f4
          generalize V.setCell ⟨w0.heap.size, 4, none⟩ (.int .i64 2) = V4 at HX HZ HW HKS ⊢
          have h10 := HX.out.ten
          have k0 := h10.c0
          have k1 := h10.c1
          have k2 := h10.c2
          have k3 := h10.c3
          have k4 := h10.c4
          have k5 := h10.c5
          have k6 := h10.c6
          have k7 := h10.c7
          have k8 := h10.c8
          have k9 := h10.c9
          dsimp only at k0 k1 k2 k3 k4 k5 k6 k7 k8 k9
          have z10 := HZ.out.ten
          have z0 := z10.c0
          have z1 := z10.c1
          have z2 := z10.c2
          have z3 := z10.c3
          have z4 := z10.c4
          have z5 := z10.c5
          have z6 := z10.c6
          have z7 := z10.c7
          have z8 := z10.c8
          have z9 := z10.c9
          have f0 := Blk.frozen HZ.out 0
          have f1 := Blk.frozen HZ.out 1
          have f2 := Blk.frozen HZ.out 2
          have f3 := Blk.frozen HZ.out 3
          have f4 := Blk.frozen HZ.out 4
          have f5 := Blk.frozen HZ.out 5
          have f6 := Blk.frozen HZ.out 6
          have f7 := Blk.frozen HZ.out 7
          have f8 := Blk.frozen HZ.out 8
          have f9 := Blk.frozen HZ.out 9
          dsimp only [zT, zA] at z0 z1 z2 z3 z4 z5 z6 z7 z8 z9
          clear z10
          clear h10
          go_wp2_with fail
          have hdone := (HKS.out.put (t := ⟨t.op, t.kids, t.rune, t.set, 2, t.cap, t.name, t.mn, t.mx, t.lzy⟩) (a := ⟨B, ys.length, d, uA, sn, uc⟩) (g := w.heap.size + 1) (by omega) (by have := HSZ.out; omega)).done (op := t.op) (rune := t.rune) (at_ := 2) (cap := t.cap) (mn := t.mn) (mx := t.mx) (name := t.name) (lzy := t.lzy) (wsz := w.heap.size) HLN.out HD1.out HD2.out HBN.out HT.out.name HB0.out
          rw [HYF.out] at hdone
          have hfin : t.turn = ⟨t.op, (t.kids.map Tr.turn).reverse, t.rune, t.set, 2, t.cap, t.name, t.mn, t.mx, t.lzy⟩ := by rw [HRES.out, HTA.out]
          rw [← hfin] at hdone
          refine tree_ret (t := ⟨t.op, t.kids, t.rune, t.set, 2, t.cap, t.name, t.mn, t.mx, t.lzy⟩) (a := ⟨B, ys.length, d, uA, sn, uc⟩) HZ.out rfl rfl ⟨_, ?_, hdone, put10_below HW.out (by omega)⟩
          rw [hfin]
          rfl
        have a1 : (t.at_ == 1) = false := beq_eq_false_iff_ne.2 e1
        by_cases e2 : t.at_ = 2
        · have a2 : (t.at_ == 2) = true := beq_iff_eq.2 e2
          have s2 : (3 : Int) - t.at_ = 1 := by omega
          have w2 : IntKind.i64.wrap 1 = 1 := rfl
          have hta : turnAt t.at_ = 1 := by rw [e2]; rfl
          have HTA := Lib.hid hta
          clear e2 hta
          go_upto_region 19 with fail
          replace HX := Lib.hid (HX.out.ats 1)
          replace HZ := Lib.hid (HZ.out.far (p := ⟨w0.heap.size, 4, none⟩) (by have := HSZ.out; show w.heap.size + 1 ≠ w0.heap.size; omega) (.int .i64 1))
          replace HW := Lib.hid (HW.out.setCell (p := ⟨w0.heap.size, 4, none⟩) HB0'.out (.int .i64 1))
          replace HKS := Lib.hid (HKS.out.far (p := ⟨w0.heap.size, 4, none⟩) (Nat.le_trans hws HB0'.out) (Nat.lt_succ_self _) (.int .i64 1))
          clear c4 g4 f4
          generalize V.setCell ⟨w0.heap.size, 4, none⟩ (.int .i64 1) = V4 at HX HZ HW HKS ⊢
          have h10 := HX.out.ten
          have k0 := h10.c0
          have k1 := h10.c1
          have k2 := h10.c2
          have k3 := h10.c3
          have k4 := h10.c4
          have k5 := h10.c5
          have k6 := h10.c6
          have k7 := h10.c7
          have k8 := h10.c8
          have k9 := h10.c9
          dsimp only at k0 k1 k2 k3 k4 k5 k6 k7 k8 k9
          have z10 := HZ.out.ten
          have z0 := z10.c0
          have z1 := z10.c1
          have z2 := z10.c2
          have z3 := z10.c3
          have z4 := z10.c4
          have z5 := z10.c5
          have z6 := z10.c6
          have z7 := z10.c7
          have z8 := z10.c8
          have z9 := z10.c9
          have f0 := Blk.frozen HZ.out 0
          have f1 := Blk.frozen HZ.out 1
          have f2 := Blk.frozen HZ.out 2
          have f3 := Blk.frozen HZ.out 3
          have f4 := Blk.frozen HZ.out 4
          have f5 := Blk.frozen HZ.out 5
          have f6 := Blk.frozen HZ.out 6
          have f7 := Blk.frozen HZ.out 7
          have f8 := Blk.frozen HZ.out 8
          have f9 := Blk.frozen HZ.out 9
          dsimp only [zT, zA] at z0 z1 z2 z3 z4 z5 z6 z7 z8 z9
          clear z10
          clear h10
          go_wp2_with fail
          have hdone := (HKS.out.put (t := ⟨t.op, t.kids, t.rune, t.set, 1, t.cap, t.name, t.mn, t.mx, t.lzy⟩) (a := ⟨B, ys.length, d, uA, sn, uc⟩) (g := w.heap.size + 1) (by omega) (by have := HSZ.out; omega)).done (op := t.op) (rune := t.rune) (at_ := 1) (cap := t.cap) (mn := t.mn) (mx := t.mx) (name := t.name) (lzy := t.lzy) (wsz := w.heap.size) HLN.out HD1.out HD2.out HBN.out HT.out.name HB0.out
          rw [HYF.out] at hdone
          have hfin : t.turn = ⟨t.op, (t.kids.map Tr.turn).reverse, t.rune, t.set, 1, t.cap, t.name, t.mn, t.mx, t.lzy⟩ := by rw [HRES.out, HTA.out]
          rw [← hfin] at hdone
          refine tree_ret (t := ⟨t.op, t.kids, t.rune, t.set, 1, t.cap, t.name, t.mn, t.mx, t.lzy⟩) (a := ⟨B, ys.length, d, uA, sn, uc⟩) HZ.out rfl rfl ⟨_, ?_, hdone, put10_below HW.out (by omega)⟩
          rw [hfin]
          rfl
        have a2 : (t.at_ == 2) = false := beq_eq_false_iff_ne.2 e2
        by_cases e4 : t.at_ = 4
        · have a4 : (t.at_ == 4) = true := beq_iff_eq.2 e4
          have s4 : (12 : Int) - t.at_ = 8 := by omega
          have w4 : IntKind.i64.wrap 8 = 8 := rfl
          have hta : turnAt t.at_ = 8 := by rw [e4]; rfl
          have HTA := Lib.hid hta
          clear e4 hta
          go_upto_region 19 with fail
          replace HX := Lib.hid (HX.out.ats 8)
          replace HZ := Lib.hid (HZ.out.far (p := ⟨w0.heap.size, 4, none⟩) (by have := HSZ.out; show w.heap.size + 1 ≠ w0.heap.size; omega) (.int .i64 8))
          replace HW := Lib.hid (HW.out.setCell (p := ⟨w0.heap.size, 4, none⟩) HB0'.out (.int .i64 8))
          replace HKS := Lib.hid (HKS.out.far (p := ⟨w0.heap.size, 4, none⟩) (Nat.le_trans hws HB0'.out) (Nat.lt_succ_self _) (.int .i64 8))
          clear c4 g4 f4
          generalize V.setCell ⟨w0.heap.size, 4, none⟩ (.int .i64 8) = V4 at HX HZ HW HKS ⊢
          have h10 := HX.out.ten
          have k0 := h10.c0
          have k1 := h10.c1
          have k2 := h10.c2
          have k3 := h10.c3
          have k4 := h10.c4
          have k5 := h10.c5
          have k6 := h10.c6
          have k7 := h10.c7
          have k8 := h10.c8
          have k9 := h10.c9
          dsimp only at k0 k1 k2 k3 k4 k5 k6 k7 k8 k9
          have z10 := HZ.out.ten
          have z0 := z10.c0
          have z1 := z10.c1
          have z2 := z10.c2
          have z3 := z10.c3
          have z4 := z10.c4
          have z5 := z10.c5
          have z6 := z10.c6
          have z7 := z10.c7
          have z8 := z10.c8
          have z9 := z10.c9
          have f0 := Blk.frozen HZ.out 0
          have f1 := Blk.frozen HZ.out 1
          have f2 := Blk.frozen HZ.out 2
          have f3 := Blk.frozen HZ.out 3
          have f4 := Blk.frozen HZ.out 4
          have f5 := Blk.frozen HZ.out 5
          have f6 := Blk.frozen HZ.out 6
          have f7 := Blk.frozen HZ.out 7
          have f8 := Blk.frozen HZ.out 8
          have f9 := Blk.frozen HZ.out 9
          dsimp only [zT, zA] at z0 z1 z2 z3 z4 z5 z6 z7 z8 z9
          clear z10
          clear h10
          go_wp2_with fail
          have hdone := (HKS.out.put (t := ⟨t.op, t.kids, t.rune, t.set, 8, t.cap, t.name, t.mn, t.mx, t.lzy⟩) (a := ⟨B, ys.length, d, uA, sn, uc⟩) (g := w.heap.size + 1) (by omega) (by have := HSZ.out; omega)).done (op := t.op) (rune := t.rune) (at_ := 8) (cap := t.cap) (mn := t.mn) (mx := t.mx) (name := t.name) (lzy := t.lzy) (wsz := w.heap.size) HLN.out HD1.out HD2.out HBN.out HT.out.name HB0.out
          rw [HYF.out] at hdone
          have hfin : t.turn = ⟨t.op, (t.kids.map Tr.turn).reverse, t.rune, t.set, 8, t.cap, t.name, t.mn, t.mx, t.lzy⟩ := by rw [HRES.out, HTA.out]
          rw [← hfin] at hdone
          refine tree_ret (t := ⟨t.op, t.kids, t.rune, t.set, 8, t.cap, t.name, t.mn, t.mx, t.lzy⟩) (a := ⟨B, ys.length, d, uA, sn, uc⟩) HZ.out rfl rfl ⟨_, ?_, hdone, put10_below HW.out (by omega)⟩
          rw [hfin]
          rfl
        have a4 : (t.at_ == 4) = false := beq_eq_false_iff_ne.2 e4
        by_cases e8 : t.at_ = 8
        · have a8 : (t.at_ == 8) = true := beq_iff_eq.2 e8
          have s8 : (12 : Int) - t.at_ = 4 := by omega
          have w8 : IntKind.i64.wrap 4 = 4 := rfl
          have hta : turnAt t.at_ = 4 := by rw [e8]; rfl
          have HTA := Lib.hid hta
          clear e8 hta
          go_upto_region 19 with fail
          replace HX := Lib.hid (HX.out.ats 4)
          replace HZ := Lib.hid (HZ.out.far (p := ⟨w0.heap.size, 4, none⟩) (by have := HSZ.out; show w.heap.size + 1 ≠ w0.heap.size; omega) (.int .i64 4))
          replace HW := Lib.hid (HW.out.setCell (p := ⟨w0.heap.size, 4, none⟩) HB0'.out (.int .i64 4))
          replace HKS := Lib.hid (HKS.out.far (p := ⟨w0.heap.size, 4, none⟩) (Nat.le_trans hws HB0'.out) (Nat.lt_succ_self _) (.int .i64 4))
          clear c4 g4 f4
          generalize V.setCell ⟨w0.heap.size, 4, none⟩ (.int .i64 4) = V4 at HX HZ HW HKS ⊢
          have h10 := HX.out.ten
          have k0 := h10.c0
          have k1 := h10.c1
          have k2 := h10.c2
          have k3 := h10.c3
          have k4 := h10.c4
          have k5 := h10.c5
          have k6 := h10.c6
          have k7 := h10.c7
          have k8 := h10.c8
          have k9 := h10.c9
          dsimp only at k0 k1 k2 k3 k4 k5 k6 k7 k8 k9
          have z10 := HZ.out.ten
          have z0 := z10.c0
          have z1 := z10.c1
          have z2 := z10.c2
          have z3 := z10.c3
          have z4 := z10.c4
          have z5 := z10.c5
          have z6 := z10.c6
          have z7 := z10.c7
          have z8 := z10.c8
          have z9 := z10.c9
          have f0 := Blk.frozen HZ.out 0
          have f1 := Blk.frozen HZ.out 1
          have f2 := Blk.frozen HZ.out 2
          have f3 := Blk.frozen HZ.out 3
          have f4 := Blk.frozen HZ.out 4
          have f5 := Blk.frozen HZ.out 5
          have f6 := Blk.frozen HZ.out 6
          have f7 := Blk.frozen HZ.out 7
          have f8 := Blk.frozen HZ.out 8
          have f9 := Blk.frozen HZ.out 9
          dsimp only [zT, zA] at z0 z1 z2 z3 z4 z5 z6 z7 z8 z9
          clear z10
          clear h10
          go_wp2_with fail
          have hdone := (HKS.out.put (t := ⟨t.op, t.kids, t.rune, t.set, 4, t.cap, t.name, t.mn, t.mx, t.lzy⟩) (a := ⟨B, ys.length, d, uA, sn, uc⟩) (g := w.heap.size + 1) (by omega) (by have := HSZ.out; omega)).done (op := t.op) (rune := t.rune) (at_ := 4) (cap := t.cap) (mn := t.mn) (mx := t.mx) (name := t.name) (lzy := t.lzy) (wsz := w.heap.size) HLN.out HD1.out HD2.out HBN.out HT.out.name HB0.out
          rw [HYF.out] at hdone
          have hfin : t.turn = ⟨t.op, (t.kids.map Tr.turn).reverse, t.rune, t.set, 4, t.cap, t.name, t.mn, t.mx, t.lzy⟩ := by rw [HRES.out, HTA.out]
          rw [← hfin] at hdone
          refine tree_ret (t := ⟨t.op, t.kids, t.rune, t.set, 4, t.cap, t.name, t.mn, t.mx, t.lzy⟩) (a := ⟨B, ys.length, d, uA, sn, uc⟩) HZ.out rfl rfl ⟨_, ?_, hdone, put10_below HW.out (by omega)⟩
          rw [hfin]
          rfl
        have a8 : (t.at_ == 8) = false := beq_eq_false_iff_ne.2 e8
        have hta : turnAt t.at_ = t.at_ := by unfold turnAt; rw [if_neg e1, if_neg e2, if_neg e4, if_neg e8]
        have HTA := Lib.hid hta
        clear e1 e2 e4 e8 hta
        go_upto_region 19 with fail
        clear c4 g4 f4
        have h10 := HX.out.ten
        have k0 := h10.c0
        have k1 := h10.c1
        have k2 := h10.c2
        have k3 := h10.c3
        have k4 := h10.c4
        have k5 := h10.c5
        have k6 := h10.c6
        have k7 := h10.c7
        have k8 := h10.c8
        have k9 := h10.c9
        dsimp only at k0 k1 k2 k3 k4 k5 k6 k7 k8 k9
        have z10 := HZ.out.ten
        have z0 := z10.c0
        have z1 := z10.c1
        have z2 := z10.c2
        have z3 := z10.c3
        have z4 := z10.c4
        have z5 := z10.c5
        have z6 := z10.c6
        have z7 := z10.c7
        have z8 := z10.c8
        have z9 := z10.c9
        have f0 := Blk.frozen HZ.out 0
        have f1 := Blk.frozen HZ.out 1
        have f2 := Blk.frozen HZ.out 2
        have f3 := Blk.frozen HZ.out 3
        have f4 := Blk.frozen HZ.out 4
        have f5 := Blk.frozen HZ.out 5
        have f6 := Blk.frozen HZ.out 6
        have f7 := Blk.frozen HZ.out 7
        have f8 := Blk.frozen HZ.out 8
        have f9 := Blk.frozen HZ.out 9
        dsimp only [zT, zA] at z0 z1 z2 z3 z4 z5 z6 z7 z8 z9
        clear z10
        clear h10
        go_wp2_with fail
        have hdone := (HKS.out.put (t := t) (a := ⟨B, ys.length, d, uA, sn, uc⟩) (g := w.heap.size + 1) (by omega) (by have := HSZ.out; omega)).done (op := t.op) (rune := t.rune) (at_ := t.at_) (cap := t.cap) (mn := t.mn) (mx := t.mx) (name := t.name) (lzy := t.lzy) (wsz := w.heap.size) HLN.out HD1.out HD2.out HBN.out HT.out.name HB0.out
        rw [HYF.out] at hdone
        have hfin : t.turn = ⟨t.op, (t.kids.map Tr.turn).reverse, t.rune, t.set, t.at_, t.cap, t.name, t.mn, t.mx, t.lzy⟩ := by rw [HRES.out, HTA.out]
        rw [← hfin] at hdone
        refine tree_ret (t := t) (a := ⟨B, ys.length, d, uA, sn, uc⟩) HZ.out rfl rfl ⟨_, ?_, hdone, put10_below HW.out (by omega)⟩
        rw [hfin]
        rfl
      · have d11 : (t.op == 11) = false := beq_eq_false_iff_ne.2 h11
        replace HRES := Lib.hid (by have := HRES.out; rw [if_neg h11] at this; exact this)
        clear h11
        go_upto_region 12 with fail
        have HYF := HYS
        clear c0 g1
        obtain ⟨V, hV⟩ : ∃ V, wr = V := ⟨_, rfl⟩
        subst hV
        have c4 := HBX.out.ten.c4
        have g4 := HX.out.ten.c4
        have f4 := Blk.frozen HX.out 4
        by_cases e1 : t.at_ = 1
        · have a1 : (t.at_ == 1) = true := beq_iff_eq.2 e1
          have s1 : (3 : Int) - t.at_ = 2 := by omega
          have w1 : IntKind.i64.wrap 2 = 2 := rfl
          have hta : turnAt t.at_ = 2 := by rw [e1]; rfl
          have HTA := Lib.hid hta
          clear e1 hta
          go_upto_region 19 with fail
          replace HX := Lib.hid (HX.out.ats 2)
          replace HZ := Lib.hid (HZ.out.far (p := ⟨w0.heap.size, 4, none⟩) (by have := HSZ.out; show w.heap.size + 1 ≠ w0.heap.size; omega) (.int .i64 2))
          replace HW := Lib.hid (HW.out.setCell (p := ⟨w0.heap.size, 4, none⟩) HB0'.out (.int .i64 2))
          replace HKS := Lib.hid (HKS.out.far (p := ⟨w0.heap.size, 4, none⟩) (Nat.le_trans hws HB0'.out) (Nat.lt_succ_self _) (.int .i64 2))
          clear c4 g4 f4
          generalize wr.setCell ⟨w0.heap.size, 4, none⟩ (.int .i64 2) = V4 at HX HZ HW HKS ⊢
          have h10 := HX.out.ten
          have k0 := h10.c0
          have k1 := h10.c1
          have k2 := h10.c2
          have k3 := h10.c3
          have k4 := h10.c4
          have k5 := h10.c5
          have k6 := h10.c6
          have k7 := h10.c7
          have k8 := h10.c8
          have k9 := h10.c9
          dsimp only at k0 k1 k2 k3 k4 k5 k6 k7 k8 k9
          have z10 := HZ.out.ten
          have z0 := z10.c0
          have z1 := z10.c1
          have z2 := z10.c2
          have z3 := z10.c3
          have z4 := z10.c4
          have z5 := z10.c5
          have z6 := z10.c6
          have z7 := z10.c7
          have z8 := z10.c8
          have z9 := z10.c9
          have f0 := Blk.frozen HZ.out 0
          have f1 := Blk.frozen HZ.out 1
          have f2 := Blk.frozen HZ.out 2
          have f3 := Blk.frozen HZ.out 3
          have f4 := Blk.frozen HZ.out 4
          have f5 := Blk.frozen HZ.out 5
          have f6 := Blk.frozen HZ.out 6
          have f7 := Blk.frozen HZ.out 7
          have f8 := Blk.frozen HZ.out 8
          have f9 := Blk.frozen HZ.out 9
          dsimp only [zT, zA] at z0 z1 z2 z3 z4 z5 z6 z7 z8 z9
          clear z10
          clear h10
          go_wp2_with fail
          have hdone := (HKS.out.put (t := ⟨t.op, t.kids, t.rune, t.set, 2, t.cap, t.name, t.mn, t.mx, t.lzy⟩) (a := ⟨B, ys.length, d, uA, sn, uc⟩) (g := w.heap.size + 1) (by omega) (by have := HSZ.out; omega)).done (op := t.op) (rune := t.rune) (at_ := 2) (cap := t.cap) (mn := t.mn) (mx := t.mx) (name := t.name) (lzy := t.lzy) (wsz := w.heap.size) rfl HD1.out HD2.out HBN.out HT.out.name HB0.out
          rw [HYF.out] at hdone
          have hfin : t.turn = ⟨t.op, t.kids.map Tr.turn, t.rune, t.set, 2, t.cap, t.name, t.mn, t.mx, t.lzy⟩ := by rw [HRES.out, HTA.out]
          rw [← hfin] at hdone
          refine tree_ret (t := ⟨t.op, t.kids, t.rune, t.set, 2, t.cap, t.name, t.mn, t.mx, t.lzy⟩) (a := ⟨B, ys.length, d, uA, sn, uc⟩) HZ.out rfl rfl ⟨_, ?_, hdone, put10_below HW.out (by omega)⟩
          rw [hfin]
          rfl
        have a1 : (t.at_ == 1) = false := beq_eq_false_iff_ne.2 e1
        by_cases e2 : t.at_ = 2
        · have a2 : (t.at_ == 2) = true := beq_iff_eq.2 e2
          have s2 : (3 : Int) - t.at_ = 1 := by omega
          have w2 : IntKind.i64.wrap 1 = 1 := rfl
          have hta : turnAt t.at_ = 1 := by rw [e2]; rfl
          have HTA := Lib.hid hta
          clear e2 hta
          go_upto_region 19 with fail
          replace HX := Lib.hid (HX.out.ats 1)
          replace HZ := Lib.hid (HZ.out.far (p := ⟨w0.heap.size, 4, none⟩) (by have := HSZ.out; show w.heap.size + 1 ≠ w0.heap.size; omega) (.int .i64 1))
          replace HW := Lib.hid (HW.out.setCell (p := ⟨w0.heap.size, 4, none⟩) HB0'.out (.int .i64 1))
          replace HKS := Lib.hid (HKS.out.far (p := ⟨w0.heap.size, 4, none⟩) (Nat.le_trans hws HB0'.out) (Nat.lt_succ_self _) (.int .i64 1))
          clear c4 g4 f4
          generalize wr.setCell ⟨w0.heap.size, 4, none⟩ (.int .i64 1) = V4 at HX HZ HW HKS ⊢
          have h10 := HX.out.ten
          have k0 := h10.c0
          have k1 := h10.c1
          have k2 := h10.c2
          have k3 := h10.c3
          have k4 := h10.c4
          have k5 := h10.c5
          have k6 := h10.c6
          have k7 := h10.c7
          have k8 := h10.c8
          have k9 := h10.c9
          dsimp only at k0 k1 k2 k3 k4 k5 k6 k7 k8 k9
          have z10 := HZ.out.ten
          have z0 := z10.c0
          have z1 := z10.c1
          have z2 := z10.c2
          have z3 := z10.c3
          have z4 := z10.c4
          have z5 := z10.c5
          have z6 := z10.c6
          have z7 := z10.c7
          have z8 := z10.c8
          have z9 := z10.c9
          have f0 := Blk.frozen HZ.out 0
          have f1 := Blk.frozen HZ.out 1
          have f2 := Blk.frozen HZ.out 2
          have f3 := Blk.frozen HZ.out 3
          have f4 := Blk.frozen HZ.out 4
          have f5 := Blk.frozen HZ.out 5
          have f6 := Blk.frozen HZ.out 6
          have f7 := Blk.frozen HZ.out 7
          have f8 := Blk.frozen HZ.out 8
          have f9 := Blk.frozen HZ.out 9
          dsimp only [zT, zA] at z0 z1 z2 z3 z4 z5 z6 z7 z8 z9
          clear z10
          clear h10
          go_wp2_with fail
          have hdone := (HKS.out.put (t := ⟨t.op, t.kids, t.rune, t.set, 1, t.cap, t.name, t.mn, t.mx, t.lzy⟩) (a := ⟨B, ys.length, d, uA, sn, uc⟩) (g := w.heap.size + 1) (by omega) (by have := HSZ.out; omega)).done (op := t.op) (rune := t.rune) (at_ := 1) (cap := t.cap) (mn := t.mn) (mx := t.mx) (name := t.name) (lzy := t.lzy) (wsz := w.heap.size) rfl HD1.out HD2.out HBN.out HT.out.name HB0.out
          rw [HYF.out] at hdone
          have hfin : t.turn = ⟨t.op, t.kids.map Tr.turn, t.rune, t.set, 1, t.cap, t.name, t.mn, t.mx, t.lzy⟩ := by rw [HRES.out, HTA.out]
          rw [← hfin] at hdone
          refine tree_ret (t := ⟨t.op, t.kids, t.rune, t.set, 1, t.cap, t.name, t.mn, t.mx, t.lzy⟩) (a := ⟨B, ys.length, d, uA, sn, uc⟩) HZ.out rfl rfl ⟨_, ?_, hdone, put10_below HW.out (by omega)⟩
          rw [hfin]
          rfl
        have a2 : (t.at_ == 2) = false := beq_eq_false_iff_ne.2 e2
        by_cases e4 : t.at_ = 4
        · have a4 : (t.at_ == 4) = true := beq_iff_eq.2 e4
          have s4 : (12 : Int) - t.at_ = 8 := by omega
          have w4 : IntKind.i64.wrap 8 = 8 := rfl
          have hta : turnAt t.at_ = 8 := by rw [e4]; rfl
          have HTA := Lib.hid hta
          clear e4 hta
          go_upto_region 19 with fail
          replace HX := Lib.hid (HX.out.ats 8)
          replace HZ := Lib.hid (HZ.out.far (p := ⟨w0.heap.size, 4, none⟩) (by have := HSZ.out; show w.heap.size + 1 ≠ w0.heap.size; omega) (.int .i64 8))
          replace HW := Lib.hid (HW.out.setCell (p := ⟨w0.heap.size, 4, none⟩) HB0'.out (.int .i64 8))
          replace HKS := Lib.hid (HKS.out.far (p := ⟨w0.heap.size, 4, none⟩) (Nat.le_trans hws HB0'.out) (Nat.lt_succ_self _) (.int .i64 8))
          clear c4 g4 f4
          generalize wr.setCell ⟨w0.heap.size, 4, none⟩ (.int .i64 8) = V4 at HX HZ HW HKS ⊢
          have h10 := HX.out.ten
          have k0 := h10.c0
          have k1 := h10.c1
          have k2 := h10.c2
          have k3 := h10.c3
          have k4 := h10.c4
          have k5 := h10.c5
          have k6 := h10.c6
          have k7 := h10.c7
          have k8 := h10.c8
          have k9 := h10.c9
          dsimp only at k0 k1 k2 k3 k4 k5 k6 k7 k8 k9
          have z10 := HZ.out.ten
          have z0 := z10.c0
          have z1 := z10.c1
          have z2 := z10.c2
          have z3 := z10.c3
          have z4 := z10.c4
          have z5 := z10.c5
          have z6 := z10.c6
          have z7 := z10.c7
          have z8 := z10.c8
          have z9 := z10.c9
          have f0 := Blk.frozen HZ.out 0
          have f1 := Blk.frozen HZ.out 1
          have f2 := Blk.frozen HZ.out 2
          have f3 := Blk.frozen HZ.out 3
          have f4 := Blk.frozen HZ.out 4
          have f5 := Blk.frozen HZ.out 5
          have f6 := Blk.frozen HZ.out 6
          have f7 := Blk.frozen HZ.out 7
          have f8 := Blk.frozen HZ.out 8
          have f9 := Blk.frozen HZ.out 9
          dsimp only [zT, zA] at z0 z1 z2 z3 z4 z5 z6 z7 z8 z9
          clear z10
          clear h10
          go_wp2_with fail
          have hdone := (HKS.out.put (t := ⟨t.op, t.kids, t.rune, t.set, 8, t.cap, t.name, t.mn, t.mx, t.lzy⟩) (a := ⟨B, ys.length, d, uA, sn, uc⟩) (g := w.heap.size + 1) (by omega) (by have := HSZ.out; omega)).done (op := t.op) (rune := t.rune) (at_ := 8) (cap := t.cap) (mn := t.mn) (mx := t.mx) (name := t.name) (lzy := t.lzy) (wsz := w.heap.size) rfl HD1.out HD2.out HBN.out HT.out.name HB0.out
          rw [HYF.out] at hdone
          have hfin : t.turn = ⟨t.op, t.kids.map Tr.turn, t.rune, t.set, 8, t.cap, t.name, t.mn, t.mx, t.lzy⟩ := by rw [HRES.out, HTA.out]
          rw [← hfin] at hdone
          refine tree_ret (t := ⟨t.op, t.kids, t.rune, t.set, 8, t.cap, t.name, t.mn, t.mx, t.lzy⟩) (a := ⟨B, ys.length, d, uA, sn, uc⟩) HZ.out rfl rfl ⟨_, ?_, hdone, put10_below HW.out (by omega)⟩
          rw [hfin]
          rfl
        have a4 : (t.at_ == 4) = false := beq_eq_false_iff_ne.2 e4
        by_cases e8 : t.at_ = 8
        · have a8 : (t.at_ == 8) = true := beq_iff_eq.2 e8
          have s8 : (12 : Int) - t.at_ = 4 := by omega
          have w8 : IntKind.i64.wrap 4 = 4 := rfl
          have hta : turnAt t.at_ = 4 := by rw [e8]; rfl
          have HTA := Lib.hid hta
          clear e8 hta
          go_upto_region 19 with fail
          replace HX := Lib.hid (HX.out.ats 4)
          replace HZ := Lib.hid (HZ.out.far (p := ⟨w0.heap.size, 4, none⟩) (by have := HSZ.out; show w.heap.size + 1 ≠ w0.heap.size; omega) (.int .i64 4))
          replace HW := Lib.hid (HW.out.setCell (p := ⟨w0.heap.size, 4, none⟩) HB0'.out (.int .i64 4))
          replace HKS := Lib.hid (HKS.out.far (p := ⟨w0.heap.size, 4, none⟩) (Nat.le_trans hws HB0'.out) (Nat.lt_succ_self _) (.int .i64 4))
          clear c4 g4 f4
          generalize wr.setCell ⟨w0.heap.size, 4, none⟩ (.int .i64 4) = V4 at HX HZ HW HKS ⊢
          have h10 := HX.out.ten
          have k0 := h10.c0
          have k1 := h10.c1
          have k2 := h10.c2
          have k3 := h10.c3
          have k4 := h10.c4
          have k5 := h10.c5
          have k6 := h10.c6
          have k7 := h10.c7
          have k8 := h10.c8
          have k9 := h10.c9
          dsimp only at k0 k1 k2 k3 k4 k5 k6 k7 k8 k9
          have z10 := HZ.out.ten
          have z0 := z10.c0
          have z1 := z10.c1
          have z2 := z10.c2
          have z3 := z10.c3
          have z4 := z10.c4
          have z5 := z10.c5
          have z6 := z10.c6
          have z7 := z10.c7
          have z8 := z10.c8
          have z9 := z10.c9
          have f0 := Blk.frozen HZ.out 0
          have f1 := Blk.frozen HZ.out 1
          have f2 := Blk.frozen HZ.out 2
          have f3 := Blk.frozen HZ.out 3
          have f4 := Blk.frozen HZ.out 4
          have f5 := Blk.frozen HZ.out 5
          have f6 := Blk.frozen HZ.out 6
          have f7 := Blk.frozen HZ.out 7
          have f8 := Blk.frozen HZ.out 8
          have f9 := Blk.frozen HZ.out 9
          dsimp only [zT, zA] at z0 z1 z2 z3 z4 z5 z6 z7 z8 z9
          clear z10
          clear h10
          go_wp2_with fail
          have hdone := (HKS.out.put (t := ⟨t.op, t.kids, t.rune, t.set, 4, t.cap, t.name, t.mn, t.mx, t.lzy⟩) (a := ⟨B, ys.length, d, uA, sn, uc⟩) (g := w.heap.size + 1) (by omega) (by have := HSZ.out; omega)).done (op := t.op) (rune := t.rune) (at_ := 4) (cap := t.cap) (mn := t.mn) (mx := t.mx) (name := t.name) (lzy := t.lzy) (wsz := w.heap.size) rfl HD1.out HD2.out HBN.out HT.out.name HB0.out
          rw [HYF.out] at hdone
          have hfin : t.turn = ⟨t.op, t.kids.map Tr.turn, t.rune, t.set, 4, t.cap, t.name, t.mn, t.mx, t.lzy⟩ := by rw [HRES.out, HTA.out]
          rw [← hfin] at hdone
          refine tree_ret (t := ⟨t.op, t.kids, t.rune, t.set, 4, t.cap, t.name, t.mn, t.mx, t.lzy⟩) (a := ⟨B, ys.length, d, uA, sn, uc⟩) HZ.out rfl rfl ⟨_, ?_, hdone, put10_below HW.out (by omega)⟩
          rw [hfin]
          rfl
        have a8 : (t.at_ == 8) = false := beq_eq_false_iff_ne.2 e8
        have hta : turnAt t.at_ = t.at_ := by unfold turnAt; rw [if_neg e1, if_neg e2, if_neg e4, if_neg e8]
        have HTA := Lib.hid hta
        clear e1 e2 e4 e8 hta
        go_upto_region 19 with fail
        clear c4 g4 f4
        have h10 := HX.out.ten
        have k0 := h10.c0
        have k1 := h10.c1
        have k2 := h10.c2
        have k3 := h10.c3
        have k4 := h10.c4
        have k5 := h10.c5
        have k6 := h10.c6
        have k7 := h10.c7
        have k8 := h10.c8
        have k9 := h10.c9
        dsimp only at k0 k1 k2 k3 k4 k5 k6 k7 k8 k9
        have z10 := HZ.out.ten
        have z0 := z10.c0
        have z1 := z10.c1
        have z2 := z10.c2
        have z3 := z10.c3
        have z4 := z10.c4
        have z5 := z10.c5
        have z6 := z10.c6
        have z7 := z10.c7
        have z8 := z10.c8
        have z9 := z10.c9
        have f0 := Blk.frozen HZ.out 0
        have f1 := Blk.frozen HZ.out 1
        have f2 := Blk.frozen HZ.out 2
        have f3 := Blk.frozen HZ.out 3
        have f4 := Blk.frozen HZ.out 4
        have f5 := Blk.frozen HZ.out 5
        have f6 := Blk.frozen HZ.out 6
        have f7 := Blk.frozen HZ.out 7
        have f8 := Blk.frozen HZ.out 8
        have f9 := Blk.frozen HZ.out 9
        dsimp only [zT, zA] at z0 z1 z2 z3 z4 z5 z6 z7 z8 z9
        clear z10
        clear h10
        go_wp2_with fail
        have hdone := (HKS.out.put (t := t) (a := ⟨B, ys.length, d, uA, sn, uc⟩) (g := w.heap.size + 1) (by omega) (by have := HSZ.out; omega)).done (op := t.op) (rune := t.rune) (at_ := t.at_) (cap := t.cap) (mn := t.mn) (mx := t.mx) (name := t.name) (lzy := t.lzy) (wsz := w.heap.size) rfl HD1.out HD2.out HBN.out HT.out.name HB0.out
        rw [HYF.out] at hdone
        have hfin : t.turn = ⟨t.op, t.kids.map Tr.turn, t.rune, t.set, t.at_, t.cap, t.name, t.mn, t.mx, t.lzy⟩ := by rw [HRES.out, HTA.out]
        rw [← hfin] at hdone
        refine tree_ret (t := t) (a := ⟨B, ys.length, d, uA, sn, uc⟩) HZ.out rfl rfl ⟨_, ?_, hdone, put10_below HW.out (by omega)⟩
        rw [hfin]
        rfl
end Go.Proofs.Ytbhcgjahlfpjoaa
namespace Go.Proofs.Ytbhcgjahlfpjoaa
open Go.RowKit

/-- What Turned tells. -/
def TurnedB (t : Tr) (m0 : Nat) (w : World) (e : Ending) (w' : World) : Prop := (RightP t ∧ BuiltB t.turn m0 w e w') ∨ (¬ RightP t ∧ BuiltB zT m0 w e w')
theorem zok (W : World) (ok : Nat → Prop) : TOk W ok zT zA := TOk.ofSet (s := []) (RgIn.empty W) (fun h => absurd h (Nat.lt_irrefl _)) (Nat.zero_le _)

set_option maxRecDepth 20000 in
set_option maxHeartbeats 4000000 in
theorem pTurned_any {t : Tr} {ws w : World} {kA : Option Addr} {kn kc : Nat} {sA : Option Addr} {sn sc : Nat} (hT : TIn ws t ⟨kA, kn, kc, sA, sn, sc⟩) (hbs : Below ws.heap.size ws w) (hp : t.parts ≤ 20000) : Calls Try.prog 33 #[.agg #[.int .i64 t.op, .slice kA kn kc, .int .i32 t.rune, .slice sA sn sc, .int .i64 t.at_, .int .i64 t.cap, .string t.name, .int .i64 t.mn, .int .i64 t.mx, .bool t.lzy]] w (TurnedB t ws.heap.size w) := by
  have hws := hbs.size
  have hX := (TBox.newV w t kA kn kc sA sn sc).below (show Below _ _ ((w.alloc (.cells #[.int .i64 t.op, .slice kA kn kc, .int .i32 t.rune, .slice sA sn sc, .int .i64 t.at_, .int .i64 t.cap, .string t.name, .int .i64 t.mn, .int .i64 t.mx, .bool t.lzy] 27)).alloc (.cells #[.int .i64 0, .slice none 0 0, .int .i32 0, .slice none 0 0, .int .i64 0, .int .i64 0, .string ⟨#[]⟩, .int .i64 0, .int .i64 0, .bool false] 27)) from (Below.refl _ _).alloc (Nat.le_refl _) _)
  have hZ := zbox (w.alloc (.cells #[.int .i64 t.op, .slice kA kn kc, .int .i32 t.rune, .slice sA sn sc, .int .i64 t.at_, .int .i64 t.cap, .string t.name, .int .i64 t.mn, .int .i64 t.mx, .bool t.lzy] 27))
  rw [World.size_alloc] at hZ
  have hb : Below w.heap.size w ((w.alloc (.cells #[.int .i64 t.op, .slice kA kn kc, .int .i32 t.rune, .slice sA sn sc, .int .i64 t.at_, .int .i64 t.cap, .string t.name, .int .i64 t.mn, .int .i64 t.mx, .bool t.lzy] 27)).alloc (.cells #[.int .i64 0, .slice none 0 0, .int .i32 0, .slice none 0 0, .int .i64 0, .int .i64 0, .string ⟨#[]⟩, .int .i64 0, .int .i64 0, .bool false] 27)) := ((Below.refl _ _).alloc (Nat.le_refl _) _).alloc (by rw [World.size_alloc]; omega) _
  have hsz : ((w.alloc (.cells #[.int .i64 t.op, .slice kA kn kc, .int .i32 t.rune, .slice sA sn sc, .int .i64 t.at_, .int .i64 t.cap, .string t.name, .int .i64 t.mn, .int .i64 t.mx, .bool t.lzy] 27)).alloc (.cells #[.int .i64 0, .slice none 0 0, .int .i32 0, .slice none 0 0, .int .i64 0, .int .i64 0, .string ⟨#[]⟩, .int .i64 0, .int .i64 0, .bool false] 27)).heap.size = w.heap.size + 2 := by simp
  have h10 := hX.ten
  have k0 := h10.c0
  have k1 := h10.c1
  have k2 := h10.c2
  have k3 := h10.c3
  have k4 := h10.c4
  have k5 := h10.c5
  have k6 := h10.c6
  have k7 := h10.c7
  have k8 := h10.c8
  have k9 := h10.c9
  dsimp only at k1 k3
  have HT := Lib.hid hT
  have HB := Lib.hid hb
  have HBS := Lib.hid hbs
  have HX := Lib.hid hX
  have HZ := Lib.hid hZ
  have HP := Lib.hid hp
  have HSZ := Lib.hid hsz
  clear hb hX hZ hT hp h10 hbs hsz
  go_enter Try.func33, Try.ntmps33
  go_upto_region 1 with fail
  generalize (w.alloc (.cells #[.int .i64 t.op, .slice kA kn kc, .int .i32 t.rune, .slice sA sn sc, .int .i64 t.at_, .int .i64 t.cap, .string t.name, .int .i64 t.mn, .int .i64 t.mx, .bool t.lzy] 27)).alloc (.cells #[.int .i64 0, .slice none 0 0, .int .i32 0, .slice none 0 0, .int .i64 0, .int .i64 0, .string ⟨#[]⟩, .int .i64 0, .int .i64 0, .bool false] 27) = w0 at HB HX HZ HSZ k0 k1 k2 k3 k4 k5 k6 k7 k8 k9 ⊢
  have hr := tright_any (HT.out.on (HBS.out.trans (HB.out.mono hws))) HP.out
  go_wp2_with fail
  refine hr.mono ?_
  rintro e V ⟨v, rfl, hv, hbV⟩
  have HV := Lib.hid hv
  replace HX := Lib.hid (HX.out.below hbV)
  replace HZ := Lib.hid (HZ.out.below hbV)
  replace HB := Lib.hid (HB.out.trans (hbV.mono HB.out.size))
  have HSV : Hid (w.heap.size + 2 ≤ V.heap.size) := Lib.hid (by have := hbV.size; have := HSZ.out; omega)
  clear hr hv hbV k0 k1 k2 k3 k4 k5 k6 k7 k8 k9
  cases v with
  | false =>
    have hno : ¬ RightP t := fun h => by have := HV.out.2 h; cases this
    have HNO := Lib.hid hno
    clear hno HV
    have z10 := HZ.out.ten
    have z0 := z10.c0
    have z1 := z10.c1
    have z2 := z10.c2
    have z3 := z10.c3
    have z4 := z10.c4
    have z5 := z10.c5
    have z6 := z10.c6
    have z7 := z10.c7
    have z8 := z10.c8
    have z9 := z10.c9
    have f0 := Blk.frozen HZ.out 0
    have f1 := Blk.frozen HZ.out 1
    have f2 := Blk.frozen HZ.out 2
    have f3 := Blk.frozen HZ.out 3
    have f4 := Blk.frozen HZ.out 4
    have f5 := Blk.frozen HZ.out 5
    have f6 := Blk.frozen HZ.out 6
    have f7 := Blk.frozen HZ.out 7
    have f8 := Blk.frozen HZ.out 8
    have f9 := Blk.frozen HZ.out 9
    dsimp only [zT, zA] at z0 z1 z2 z3 z4 z5 z6 z7 z8 z9
    clear z10
    go_wp2_with fail
    refine tree_ret (t := zT) (a := zA) HZ.out rfl rfl (Or.inr ⟨HNO.out, _, rfl, ?_, put10_below HB.out (by omega)⟩)
    exact zok _ _
  | true =>
    have HOK := Lib.hid (HV.out.1 rfl)
    clear HV
    have h10 := HX.out.ten
    have k0 := h10.c0
    have k1 := h10.c1
    have k2 := h10.c2
    have k3 := h10.c3
    have k4 := h10.c4
    have k5 := h10.c5
    have k6 := h10.c6
    have k7 := h10.c7
    have k8 := h10.c8
    have k9 := h10.c9
    dsimp only at k1 k3
    have hc := pturned_any t HT.out (HBS.out.trans (HB.out.mono hws)) HP.out HOK.out.one
    clear h10
    go_wp2_with fail
    refine hc.mono ?_
    rintro e W5 ⟨⟨cA, cn, cc, eA, en, ec⟩, rfl, hz, hb5⟩
    have HZ5 := Lib.hid (HZ.out.below hb5)
    have HTK := Lib.hid hz
    have HB5 := Lib.hid (HB.out.trans (hb5.mono HB.out.size))
    clear hc hb5 hz k0 k1 k2 k3 k4 k5 k6 k7 k8 k9
    have z10 := HZ5.out.ten
    have z0 := z10.c0
    have z1 := z10.c1
    have z2 := z10.c2
    have z3 := z10.c3
    have z4 := z10.c4
    have z5 := z10.c5
    have z6 := z10.c6
    have z7 := z10.c7
    have z8 := z10.c8
    have z9 := z10.c9
    have f0 := Blk.frozen HZ5.out 0
    have f1 := Blk.frozen HZ5.out 1
    have f2 := Blk.frozen HZ5.out 2
    have f3 := Blk.frozen HZ5.out 3
    have f4 := Blk.frozen HZ5.out 4
    have f5 := Blk.frozen HZ5.out 5
    have f6 := Blk.frozen HZ5.out 6
    have f7 := Blk.frozen HZ5.out 7
    have f8 := Blk.frozen HZ5.out 8
    have f9 := Blk.frozen HZ5.out 9
    dsimp only [zT, zA] at z0 z1 z2 z3 z4 z5 z6 z7 z8 z9
    clear z10
    simp only [Tr.cells]
    go_wp2_with fail
    have hfin := (HTK.out.put (g := w.heap.size + 1) (t := t.turn) (a := ⟨cA, cn, cc, eA, en, ec⟩) (by have := HSV.out; omega)).mono (ok' := fun b => b < ws.heap.size ∨ w.heap.size ≤ b) fun b _ hb => by have := HSV.out; omega
    exact tree_ret (t := t.turn) (a := ⟨cA, cn, cc, eA, en, ec⟩) HZ5.out rfl rfl (Or.inl ⟨HOK.out, _, rfl, hfin, put10_below HB5.out (by omega)⟩)
set_option maxRecDepth 20000 in
set_option maxHeartbeats 4000000 in
theorem rTurned_any {t : Tr} {ws w : World} {kA : Option Addr} {kn kc : Nat} {sA : Option Addr} {sn sc : Nat} (hT : TIn ws t ⟨kA, kn, kc, sA, sn, sc⟩) (hbs : Below ws.heap.size ws w) (hp : t.parts ≤ 20000) : Calls Try.prog 34 #[.agg #[.int .i64 t.op, .slice kA kn kc, .int .i32 t.rune, .slice sA sn sc, .int .i64 t.at_, .int .i64 t.cap, .string t.name, .int .i64 t.mn, .int .i64 t.mx, .bool t.lzy]] w (TurnedB t ws.heap.size w) := by
  have hws := hbs.size
  have hX := (TBox.newV w t kA kn kc sA sn sc).below (show Below _ _ ((w.alloc (.cells #[.int .i64 t.op, .slice kA kn kc, .int .i32 t.rune, .slice sA sn sc, .int .i64 t.at_, .int .i64 t.cap, .string t.name, .int .i64 t.mn, .int .i64 t.mx, .bool t.lzy] 27)).alloc (.cells #[.int .i64 0, .slice none 0 0, .int .i32 0, .slice none 0 0, .int .i64 0, .int .i64 0, .string ⟨#[]⟩, .int .i64 0, .int .i64 0, .bool false] 27)) from (Below.refl _ _).alloc (Nat.le_refl _) _)
  have hZ := zbox (w.alloc (.cells #[.int .i64 t.op, .slice kA kn kc, .int .i32 t.rune, .slice sA sn sc, .int .i64 t.at_, .int .i64 t.cap, .string t.name, .int .i64 t.mn, .int .i64 t.mx, .bool t.lzy] 27))
  rw [World.size_alloc] at hZ
  have hb : Below w.heap.size w ((w.alloc (.cells #[.int .i64 t.op, .slice kA kn kc, .int .i32 t.rune, .slice sA sn sc, .int .i64 t.at_, .int .i64 t.cap, .string t.name, .int .i64 t.mn, .int .i64 t.mx, .bool t.lzy] 27)).alloc (.cells #[.int .i64 0, .slice none 0 0, .int .i32 0, .slice none 0 0, .int .i64 0, .int .i64 0, .string ⟨#[]⟩, .int .i64 0, .int .i64 0, .bool false] 27)) := ((Below.refl _ _).alloc (Nat.le_refl _) _).alloc (by rw [World.size_alloc]; omega) _
  have hsz : ((w.alloc (.cells #[.int .i64 t.op, .slice kA kn kc, .int .i32 t.rune, .slice sA sn sc, .int .i64 t.at_, .int .i64 t.cap, .string t.name, .int .i64 t.mn, .int .i64 t.mx, .bool t.lzy] 27)).alloc (.cells #[.int .i64 0, .slice none 0 0, .int .i32 0, .slice none 0 0, .int .i64 0, .int .i64 0, .string ⟨#[]⟩, .int .i64 0, .int .i64 0, .bool false] 27)).heap.size = w.heap.size + 2 := by simp
  have h10 := hX.ten
  have k0 := h10.c0
  have k1 := h10.c1
  have k2 := h10.c2
  have k3 := h10.c3
  have k4 := h10.c4
  have k5 := h10.c5
  have k6 := h10.c6
  have k7 := h10.c7
  have k8 := h10.c8
  have k9 := h10.c9
  dsimp only at k1 k3
  have HT := Lib.hid hT
  have HB := Lib.hid hb
  have HBS := Lib.hid hbs
  have HX := Lib.hid hX
  have HZ := Lib.hid hZ
  have HP := Lib.hid hp
  have HSZ := Lib.hid hsz
  clear hb hX hZ hT hp h10 hbs hsz
  go_enter Try.func34, Try.ntmps34
  go_upto_region 1 with fail
  generalize (w.alloc (.cells #[.int .i64 t.op, .slice kA kn kc, .int .i32 t.rune, .slice sA sn sc, .int .i64 t.at_, .int .i64 t.cap, .string t.name, .int .i64 t.mn, .int .i64 t.mx, .bool t.lzy] 27)).alloc (.cells #[.int .i64 0, .slice none 0 0, .int .i32 0, .slice none 0 0, .int .i64 0, .int .i64 0, .string ⟨#[]⟩, .int .i64 0, .int .i64 0, .bool false] 27) = w0 at HB HX HZ HSZ k0 k1 k2 k3 k4 k5 k6 k7 k8 k9 ⊢
  have hr := rright_any (HT.out.on (HBS.out.trans (HB.out.mono hws))) HP.out
  go_wp2_with fail
  refine hr.mono ?_
  rintro e V ⟨v, rfl, hv, hbV⟩
  have HV := Lib.hid hv
  replace HX := Lib.hid (HX.out.below hbV)
  replace HZ := Lib.hid (HZ.out.below hbV)
  replace HB := Lib.hid (HB.out.trans (hbV.mono HB.out.size))
  have HSV : Hid (w.heap.size + 2 ≤ V.heap.size) := Lib.hid (by have := hbV.size; have := HSZ.out; omega)
  clear hr hv hbV k0 k1 k2 k3 k4 k5 k6 k7 k8 k9
  cases v with
  | false =>
    have hno : ¬ RightP t := fun h => by have := HV.out.2 h; cases this
    have HNO := Lib.hid hno
    clear hno HV
    have z10 := HZ.out.ten
    have z0 := z10.c0
    have z1 := z10.c1
    have z2 := z10.c2
    have z3 := z10.c3
    have z4 := z10.c4
    have z5 := z10.c5
    have z6 := z10.c6
    have z7 := z10.c7
    have z8 := z10.c8
    have z9 := z10.c9
    have f0 := Blk.frozen HZ.out 0
    have f1 := Blk.frozen HZ.out 1
    have f2 := Blk.frozen HZ.out 2
    have f3 := Blk.frozen HZ.out 3
    have f4 := Blk.frozen HZ.out 4
    have f5 := Blk.frozen HZ.out 5
    have f6 := Blk.frozen HZ.out 6
    have f7 := Blk.frozen HZ.out 7
    have f8 := Blk.frozen HZ.out 8
    have f9 := Blk.frozen HZ.out 9
    dsimp only [zT, zA] at z0 z1 z2 z3 z4 z5 z6 z7 z8 z9
    clear z10
    go_wp2_with fail
    refine tree_ret (t := zT) (a := zA) HZ.out rfl rfl (Or.inr ⟨HNO.out, _, rfl, ?_, put10_below HB.out (by omega)⟩)
    exact zok _ _
  | true =>
    have HOK := Lib.hid (HV.out.1 rfl)
    clear HV
    have h10 := HX.out.ten
    have k0 := h10.c0
    have k1 := h10.c1
    have k2 := h10.c2
    have k3 := h10.c3
    have k4 := h10.c4
    have k5 := h10.c5
    have k6 := h10.c6
    have k7 := h10.c7
    have k8 := h10.c8
    have k9 := h10.c9
    dsimp only at k1 k3
    have hc := rturned_any t HT.out (HBS.out.trans (HB.out.mono hws)) HP.out HOK.out.one
    clear h10
    go_wp2_with fail
    refine hc.mono ?_
    rintro e W5 ⟨⟨cA, cn, cc, eA, en, ec⟩, rfl, hz, hb5⟩
    have HZ5 := Lib.hid (HZ.out.below hb5)
    have HTK := Lib.hid hz
    have HB5 := Lib.hid (HB.out.trans (hb5.mono HB.out.size))
    clear hc hb5 hz k0 k1 k2 k3 k4 k5 k6 k7 k8 k9
    have z10 := HZ5.out.ten
    have z0 := z10.c0
    have z1 := z10.c1
    have z2 := z10.c2
    have z3 := z10.c3
    have z4 := z10.c4
    have z5 := z10.c5
    have z6 := z10.c6
    have z7 := z10.c7
    have z8 := z10.c8
    have z9 := z10.c9
    have f0 := Blk.frozen HZ5.out 0
    have f1 := Blk.frozen HZ5.out 1
    have f2 := Blk.frozen HZ5.out 2
    have f3 := Blk.frozen HZ5.out 3
    have f4 := Blk.frozen HZ5.out 4
    have f5 := Blk.frozen HZ5.out 5
    have f6 := Blk.frozen HZ5.out 6
    have f7 := Blk.frozen HZ5.out 7
    have f8 := Blk.frozen HZ5.out 8
    have f9 := Blk.frozen HZ5.out 9
    dsimp only [zT, zA] at z0 z1 z2 z3 z4 z5 z6 z7 z8 z9
    clear z10
    simp only [Tr.cells]
    go_wp2_with fail
    have hfin := (HTK.out.put (g := w.heap.size + 1) (t := t.turn) (a := ⟨cA, cn, cc, eA, en, ec⟩) (by have := HSV.out; omega)).mono (ok' := fun b => b < ws.heap.size ∨ w.heap.size ≤ b) fun b _ hb => by have := HSV.out; omega
    exact tree_ret (t := t.turn) (a := ⟨cA, cn, cc, eA, en, ec⟩) HZ5.out rfl rfl (Or.inl ⟨HOK.out, _, rfl, hfin, put10_below HB5.out (by omega)⟩)
end Go.Proofs.Ytbhcgjahlfpjoaa
