/- ThreadsAgain: the law's walk. -/
import Derived.Test.YtbhcgjahlfpjoaaDoorTl3
namespace Go.Proofs.YtbhcgjahlfpjoaaDoor
open Go.RowKit

/-- What a machine is asked, in memory. -/
structure AskIn (w : World) (A : Option Addr) (n c : Nat) (L : List MI) (T : Option Addr) (tn tc : Nat) (s : ByteArray) (frm : Int) : Prop where
  pg : PgIn w A n c L
  fit : SetsFit L
  nn : n ≤ 17592186043904
  rd : Rd w 0 w.heap.size T (byteVals s.data.toList)
  sz : s.size = tn
  tnil : T = none → tn = 0
  tle : tn ≤ maxLen
  fr : frm ≤ 9223372036854775807
def askC (A : Option Addr) (n c : Nat) (st cp : Int) (T : Option Addr) (tn tc : Nat) (frm : Int) (anch lng : Bool) : Array Value := #[.slice A n c, .int .i64 st, .int .i64 cp, .slice T tn tc, .int .i64 frm, .bool anch, .bool lng]
/-- An input or nil. -/
def PtrB (w : World) (s : ByteArray) (pa : Option Addr) (w' : World) : Prop := pa = none ∨ ∃ g m, pa = some ⟨g, 0, none⟩ ∧ Cnt s m ∧ s.size ≤ 65536 ∧ SymsAt w' w.heap.size w'.heap.size g (full (preR s m) s.size) s.data.toList
theorem TextB.ptr {w w' : World} {s : ByteArray} {e : Ending} (h : TextB w s e w') : ∃ pa, e = .returned (.pointer pa) ∧ Below w.heap.size w w' ∧ PtrB w s pa w' := by
  rcases h with ⟨h1, g, m, hm, rfl, hin, hb⟩ | ⟨_, rfl, hb⟩
  · exact ⟨_, rfl, hb, .inr ⟨g, m, rfl, hm, h1, hin.1⟩⟩
  · exact ⟨_, rfl, hb, .inl rfl⟩
set_option maxRecDepth 100000 in
set_option maxHeartbeats 8000000 in
theorem threadsAgain_walk {w : World} {A B T V : Option Addr} {n c m d tn tc vn vc : Nat} {L K : List MI} {s z : ByteArray} {st cp su cq frm gro : Int} (anch lng anc2 lng2 : Bool)
    (hx : AskIn w A n c L T tn tc s frm) (hy : AskIn w B m d K V vn vc z gro) :
    Calls Tryd.prog 5 #[.agg #[.slice A n c, .int .i64 st, .int .i64 cp, .slice T tn tc, .int .i64 frm, .bool anch, .bool lng], .agg #[.slice B m d, .int .i64 su, .int .i64 cq, .slice V vn vc, .int .i64 gro, .bool anc2, .bool lng2]] w fun e w' => e = .returned (.bool true) ∧ Below w.heap.size w w' := by
  have q1 := Blk.new w 31 #[.slice A n c, .int .i64 st, .int .i64 cp, .slice T tn tc, .int .i64 frm, .bool anch, .bool lng]
  have b1 : Below w.heap.size w (w.alloc (.cells #[.slice A n c, .int .i64 st, .int .i64 cp, .slice T tn tc, .int .i64 frm, .bool anch, .bool lng] 31)) := (Below.refl _ _).alloc (Nat.le_refl _) _
  have HX := Lib.hid hx
  have HY := Lib.hid hy
  clear hx hy
  go_enter Tryd.func5, Tryd.ntmps5
  go_upto_region 1 with fail
  have z1 : (w.alloc (.cells #[.slice A n c, .int .i64 st, .int .i64 cp, .slice T tn tc, .int .i64 frm, .bool anch, .bool lng] 31)).heap.size = w.heap.size + 1 := by simp
  generalize w.alloc (.cells #[.slice A n c, .int .i64 st, .int .i64 cp, .slice T tn tc, .int .i64 frm, .bool anch, .bool lng] 31) = w1 at q1 b1 z1 ⊢
  have q2 := Blk.new w1 31 #[.slice B m d, .int .i64 su, .int .i64 cq, .slice V vn vc, .int .i64 gro, .bool anc2, .bool lng2]
  have b2 := b1.alloc b1.size (.cells #[.slice B m d, .int .i64 su, .int .i64 cq, .slice V vn vc, .int .i64 gro, .bool anc2, .bool lng2] 31)
  have q1b := q1.alloc (.cells #[.slice B m d, .int .i64 su, .int .i64 cq, .slice V vn vc, .int .i64 gro, .bool anc2, .bool lng2] 31)
  rw [z1] at q2
  generalize w1.alloc (.cells #[.slice B m d, .int .i64 su, .int .i64 cq, .slice V vn vc, .int .i64 gro, .bool anc2, .bool lng2] 31) = w2 at q2 b2 q1b ⊢
  have hh := head17_any w2
  have Q1 := Lib.hid q1b
  have Q2 := Lib.hid q2
  have B2 := Lib.hid b2
  clear q1 b1 q2 b2 q1b z1
  go_wp2_with fail
  with_reducible refine hh.mono ?_
  rintro e w3 ⟨rfl, hb3⟩
  have Q1c := Lib.hid (Q1.out.below hb3 Q1.out.lt)
  have Q2c := Lib.hid (Q2.out.below hb3 Q2.out.lt)
  have B3 := Lib.hid (B2.out.trans (hb3.mono B2.out.size))
  clear hh hb3 Q1 Q2 B2
  have x3 := Q1c.out.cell 3
  have y3 := Q2c.out.cell 3
  simp only [List.getElem?_toArray, List.getElem?_cons_zero, List.getElem?_cons_succ] at x3 y3
  have ht := text11_any (c := tc) (HX.out.rd.same (Same.of_below B3.out (Nat.le_refl _))) B3.out.size HX.out.sz HX.out.tnil HX.out.tle
  go_wp2_with fail
  with_reducible refine ht.mono ?_
  intro e w4 ht4
  obtain ⟨pa, rfl, hb4, hpa⟩ := ht4.ptr
  have Q1d := Lib.hid (Q1c.out.below hb4 Q1c.out.lt)
  have Q2d := Lib.hid (Q2c.out.below hb4 Q2c.out.lt)
  have B4 := Lib.hid (B3.out.trans (hb4.mono B3.out.size))
  have HPA := Lib.hid hpa
  have y4 := Q2d.out.cell 3
  simp only [List.getElem?_toArray, List.getElem?_cons_zero, List.getElem?_cons_succ] at y4
  have ht := text11_any (c := vc) (HY.out.rd.same (Same.of_below B4.out (Nat.le_refl _))) B4.out.size HY.out.sz HY.out.tnil HY.out.tle
  clear hb4 x3 y3 ht4 hpa Q1c Q2c B3
  go_wp2_with fail
  with_reducible refine ht.mono ?_
  intro e w5 ht5
  obtain ⟨pb, rfl, hb5, hpb⟩ := ht5.ptr
  have Q1e := Lib.hid (Q1d.out.below hb5 Q1d.out.lt)
  have Q2e := Lib.hid (Q2d.out.below hb5 Q2d.out.lt)
  have B5 := Lib.hid (B4.out.trans (hb5.mono B4.out.size))
  have B45 := Lib.hid hb5
  have HPB := Lib.hid hpb
  have hn := new17_any w5
  have HLT := Lib.hid (And.intro Q1e.out.lt Q2e.out.lt)
  clear ht hb5 y4 ht5 hpb Q1d Q2d
  go_wp2_with fail
  with_reducible refine hn.mono ?_
  rintro e w6 ⟨rfl, hma, hb6, _, hz6⟩
  have Q1f := Lib.hid (Q1e.out.below hb6 Q1e.out.lt)
  have Q2f := Lib.hid (Q2e.out.below hb6 Q2e.out.lt)
  have B6 := Lib.hid (B5.out.trans (hb6.mono B5.out.size))
  have B56 := Lib.hid hb6
  have HMA := Lib.hid hma
  have HZ6 := Lib.hid hz6
  clear hn hma hb6 hz6 Q1e Q2e
  go_upto_region 5 with fail
  rcases HPA.out with rfl | ⟨ga, ma, rfl, hca, hsa, hia⟩
  · go_wp2_with fail
    go_ret
    exact ⟨rfl, B6.out⟩
  rcases HPB.out with rfl | ⟨gb, mb, rfl, hcb, hsb, hib⟩
  · go_wp2_with fail
    go_ret
    exact ⟨rfl, B6.out⟩
  have H46 := Lib.hid (B45.out.trans (B56.out.mono B45.out.size))
  have HIA := Lib.hid (hia.same (Same.of_below H46.out (Nat.le_refl _)))
  have HIB := Lib.hid (hib.same (Same.of_below B56.out (Nat.le_refl _)))
  have HCA := Lib.hid (And.intro hca hsa)
  have HCB := Lib.hid (And.intro hcb hsb)
  have HG := Lib.hid (And.intro B5.out.size (And.intro B45.out.size HZ6.out))
  have hlx := long15_any (st := st) (cp := cp) (HX.out.pg.below B6.out) HX.out.fit HX.out.nn T (tn := tn) (tc := tc) (by have := HX.out.sz; omega)
  have x0 := Q1f.out.cell 0
  have x1 := Q1f.out.cell 1
  have x2 := Q1f.out.cell 2
  have x3 := Q1f.out.cell 3
  have x4 := Q1f.out.cell 4
  have x5 := Q1f.out.cell 5
  have x6 := Q1f.out.cell 6
  simp only [List.getElem?_toArray, List.getElem?_cons_zero, List.getElem?_cons_succ] at x0 x1 x2 x3 x4 x5 x6
  clear hca hsa hia hcb hsb hib H46 B45 B56 B4 HPA HPB
  go_wp2_with fail
  with_reducible refine hlx.mono ?_
  rintro e w7 ⟨bl, rfl, hbl, hb7⟩
  have HBL := Lib.hid hbl
  have B7 := Lib.hid (B6.out.trans (hb7.mono B6.out.size))
  have HB67 := Lib.hid hb7
  clear hlx hbl hb7 x0 x1 x2 x3 x4 x5 x6
  cases bl with
  | true =>
    go_wp2_with fail
    go_ret
    exact ⟨rfl, B7.out⟩
  | false =>
  have Q1g := Lib.hid (Q1f.out.below HB67.out Q1f.out.lt)
  have Q2g := Lib.hid (Q2f.out.below HB67.out Q2f.out.lt)
  have hly := long15_any (st := su) (cp := cq) (HY.out.pg.below B7.out) HY.out.fit HY.out.nn V (tn := vn) (tc := vc) (by have := HY.out.sz; have := HCB.out.2; omega)
  have y0 := Q2g.out.cell 0
  have y1 := Q2g.out.cell 1
  have y2 := Q2g.out.cell 2
  have y3 := Q2g.out.cell 3
  have y4 := Q2g.out.cell 4
  have y5 := Q2g.out.cell 5
  have y6 := Q2g.out.cell 6
  simp only [List.getElem?_toArray, List.getElem?_cons_zero, List.getElem?_cons_succ] at y0 y1 y2 y3 y4 y5 y6
  go_wp2_with fail
  with_reducible refine hly.mono ?_
  rintro e w8 ⟨bm, rfl, hbm, hb8⟩
  have HBM := Lib.hid hbm
  have B8 := Lib.hid (B7.out.trans (hb8.mono B7.out.size))
  have HB68 := Lib.hid (HB67.out.onto hb8)
  have Q1h := Lib.hid (Q1g.out.below hb8 Q1g.out.lt)
  have Q2h := Lib.hid (Q2g.out.below hb8 Q2g.out.lt)
  clear hly hbm hb8 y0 y1 y2 y3 y4 y5 y6 Q1f Q2f Q1g Q2g
  cases bm with
  | true =>
    go_wp2_with fail
    go_ret
    exact ⟨rfl, B8.out⟩
  | false =>
  have HSX : Hid (∀ x ∈ L, x.n ≤ 1000000) := Lib.hid fun x hx => by have := (HBL.out (by first | rfl | trivial)).2.1 x hx; omega
  have HSY : Hid (∀ x ∈ K, x.n ≤ 1000000) := Lib.hid fun x hx => by have := (HBM.out (by first | rfl | trivial)).2.1 x hx; omega
  have HGM := Lib.hid (HMA.out.below HB68.out HMA.out.lt)
  have HPX : Hid (PgK w w5.heap.size A n c L) := Lib.hid (PgK.of HX.out.pg HG.out.1)
  have HPY : Hid (PgK w w5.heap.size B m d K) := Lib.hid (PgK.of HY.out.pg HG.out.1)
  have hf1 := find_any (st := st) (cp := cp) (ma_new HGM.out B8.out.size) HPX.out HSX.out (Bel.of_below B8.out) (HIA.out.same (Same.of_below HB68.out (by have := HG.out; omega))) (by have := HG.out; have := HB68.out.size; omega) (fun k h1 h2 h3 => by have h4 := ft_new h3; have h5 := HG.out; omega) ⟨by rw [full_length]; omega, by rw [full_length, pre_length]; have := HCA.out.1.le; have := HCA.out.2; omega⟩ frm HX.out.fr anch lng
  have x0 := Q1h.out.cell 0
  have x1 := Q1h.out.cell 1
  have x2 := Q1h.out.cell 2
  have x3 := Q1h.out.cell 3
  have x4 := Q1h.out.cell 4
  have x5 := Q1h.out.cell 5
  have x6 := Q1h.out.cell 6
  simp only [List.getElem?_toArray, List.getElem?_cons_zero, List.getElem?_cons_succ] at x0 x1 x2 x3 x4 x5 x6
  go_wp2_with fail
  with_reducible refine hf1.mono ?_
  rintro e w9 ⟨v1, E1, E2, rfl, hbi1, hma1, hw1⟩
  have HBI1 := Lib.hid hbi1
  have HMA1 := Lib.hid hma1
  have HW1 := Lib.hid hw1
  have HSZ9 := Lib.hid hw1.1.size
  have B9 := Lib.hid (Bel.trans (Bel.of_below (g := w5.heap.size) B8.out) ⟨hw1.1.size, fun k h1 h2 => hw1.1.block k (by have := B8.out.size; omega) (fun h3 => h2 (ft_new h3))⟩)
  clear hf1 hbi1 hma1 hw1 x0 x1 x2 x3 x4 x5 x6
  have Q1i := Lib.hid (HW1.out.1.blk Q1h.out (fun h => by have := ft_new h; have := HLT.out; omega))
  have Q2i := Lib.hid (HW1.out.1.blk Q2h.out (fun h => by have := ft_new h; have := HLT.out; omega))
  have HZE : Hid (∀ k, Ft w5.heap.size E1 E2 k → k = w5.heap.size ∨ w8.heap.size ≤ k) := Lib.hid fun k hk => (HW1.out.2 k hk).imp ft_new id
  have HIB9 := Lib.hid ((HIB.out.same (Same.of_below HB68.out (by have := HG.out; omega))).same (HW1.out.same (lo := w4.heap.size) (U := w5.heap.size) (fun k h1 h2 h3 => by have h4 := ft_new h3; omega) (by have := HG.out; have := HB68.out.size; omega)))
  have HIA9 := Lib.hid ((HIA.out.same (Same.of_below HB68.out (by have := HG.out; omega))).same (HW1.out.same (lo := w3.heap.size) (U := w4.heap.size) (fun k h1 h2 h3 => by have h4 := ft_new h3; have := HG.out; omega) (by have := HG.out; have := HB68.out.size; omega)))
  have hf2 := find_any (st := su) (cp := cq) HMA1.out HPY.out HSY.out B9.out HIB9.out (by have := HG.out; have := HB68.out.size; have := HSZ9.out; omega) (fun k h1 h2 h3 => by have h4 := HZE.out k h3; have h5 := HG.out; have := HB68.out.size; omega) ⟨by rw [full_length]; omega, by rw [full_length, pre_length]; have := HCB.out.1.le; have := HCB.out.2; omega⟩ gro HY.out.fr anc2 lng2
  have y0 := Q2i.out.cell 0
  have y1 := Q2i.out.cell 1
  have y2 := Q2i.out.cell 2
  have y3 := Q2i.out.cell 3
  have y4 := Q2i.out.cell 4
  have y5 := Q2i.out.cell 5
  have y6 := Q2i.out.cell 6
  simp only [List.getElem?_toArray, List.getElem?_cons_zero, List.getElem?_cons_succ] at y0 y1 y2 y3 y4 y5 y6
  go_wp2_with fail
  with_reducible refine hf2.mono ?_
  rintro e w10 ⟨v2, F1, F2, rfl, _, hma2, hw2⟩
  have HBI2 := Lib.hid (HBI1.out.went hw2)
  have HMA2 := Lib.hid hma2
  have HW2 := Lib.hid (HW1.out.trans hw2)
  have HSZ10 := Lib.hid hw2.1.size
  have B10 := Lib.hid (Bel.trans (Bel.of_below (g := w5.heap.size) B8.out) ⟨HW2.out.1.size, fun k h1 h2 => HW2.out.1.block k (by have := B8.out.size; omega) (fun h3 => h2 (ft_new h3))⟩)
  have Q1j := Lib.hid (HW2.out.1.blk Q1h.out (fun h => by have := ft_new h; have := HLT.out; omega))
  have HZF : Hid (∀ k, Ft w5.heap.size F1 F2 k → k = w5.heap.size ∨ w8.heap.size ≤ k) := Lib.hid fun k hk => (HW2.out.2 k hk).imp ft_new id
  have HIA10 := Lib.hid ((HIA.out.same (Same.of_below HB68.out (by have := HG.out; omega))).same (HW2.out.same (lo := w3.heap.size) (U := w4.heap.size) (fun k h1 h2 h3 => by have h4 := ft_new h3; have := HG.out; omega) (by have := HG.out; have := HB68.out.size; omega)))
  clear hf2 hma2 hw2 y0 y1 y2 y3 y4 y5 y6 HBI1 HMA1 HIB9 HIA9 HIB Q1i Q2i Q2h HZE B9
  have hf3 := find_any (st := st) (cp := cp) HMA2.out HPX.out HSX.out B10.out HIA10.out (by have := HG.out; have := HB68.out.size; have := HSZ9.out; have := HSZ10.out; omega) (fun k h1 h2 h3 => by have h4 := HZF.out k h3; have h5 := HG.out; have := HB68.out.size; omega) ⟨by rw [full_length]; omega, by rw [full_length, pre_length]; have := HCA.out.1.le; have := HCA.out.2; omega⟩ frm HX.out.fr anch lng
  have x0 := Q1j.out.cell 0
  have x1 := Q1j.out.cell 1
  have x2 := Q1j.out.cell 2
  have x3 := Q1j.out.cell 3
  have x4 := Q1j.out.cell 4
  have x5 := Q1j.out.cell 5
  have x6 := Q1j.out.cell 6
  simp only [List.getElem?_toArray, List.getElem?_cons_zero, List.getElem?_cons_succ] at x0 x1 x2 x3 x4 x5 x6
  go_wp2_with fail
  with_reducible refine hf3.mono ?_
  rintro e w11 ⟨v3, G1, G2, rfl, hbi3, _, hw3⟩
  have HBI3 := Lib.hid hbi3
  have HBI1 := Lib.hid (HBI2.out.went hw3)
  have HW3 := Lib.hid (HW2.out.trans hw3)
  have B11 : Hid (Below w.heap.size w w11) := Lib.hid (B8.out.trans (HW3.out.1.below (fun q hq => by rw [ft_new hq]; exact HG.out.1) B8.out.size))
  clear hf3 hbi3 hw3 x0 x1 x2 x3 x4 x5 x6 HW1 HW2 HMA2 HBI2 HIA10 HIA Q1h Q1j
  generalize fR n st cp L (full (preR s ma) s.size) frm anch lng = R at HBI3 HBI1 ⊢
  have hil : ∃ (a : Option Addr) (k e : Nat) (a2 : Option Addr) (e2 : Nat) (l : List Int), v1 = .slice a k e ∧ v3 = .slice a2 k e2 ∧ IlIn w11 a k e l ∧ IlIn w11 a2 k e2 l := by
    cases R with
    | none => exact ⟨none, 0, 0, none, 0, [], HBI1.out, HBI3.out, IlIn.empty _, IlIn.empty _⟩
    | some f =>
      obtain ⟨⟨b, o, cc, rfl, h⟩, _⟩ := HBI1.out
      obtain ⟨⟨b2, o2, cc2, rfl, h2⟩, _⟩ := HBI3.out
      exact ⟨_, f.length, cc, _, cc2, f, rfl, rfl, FitIn.il (Z := Ft w5.heap.size G1 G2) ⟨b, o, cc, rfl, h⟩, FitIn.il (Z := Ft w5.heap.size G1 G2) ⟨b2, o2, cc2, rfl, h2⟩⟩
  obtain ⟨a1, k1, e1, a2, e2, l1, rfl, rfl, hi1, hi2⟩ := hil
  have hsm := sameI_any hi1 hi2
  clear hi1 hi2 HBI1 HBI3
  generalize R.isSome = bR
  generalize fS n st cp L (full (preR s ma) s.size) frm anch lng = S1
  have hb0 : (bR == bR) = true := by cases bR <;> rfl
  go_wp2_with fail
  with_reducible refine hsm.mono ?_
  rintro e w12 ⟨bs, rfl, hbs, hb12⟩
  obtain rfl : bs = true := hbs.2 rfl
  have B12 := Lib.hid (B11.out.trans (hb12.mono B11.out.size))
  clear hsm hbs hb12
  go_wp2_with fail
  go_ret
  exact ⟨rfl, B12.out⟩
end Go.Proofs.YtbhcgjahlfpjoaaDoor
