/- TablesNames: the walk. -/
import Derived.Test.YtoglnankopdohaaTn1
import Derived.Test.YtoglnankopdohaaTb1
namespace Go.Proofs.Ytoglnankopdohaa
open Go.RowKit

theorem rgCells_setLo : ∀ (l : List Rg) (k : Nat) (p : Rg) (y : Int), l[k]? = some p → (rgCells l).set (k * 2) (.int .i32 y) = rgCells (l.set k (y, p.2))
  | [], k, p, y, h => by simp at h
  | q :: l, 0, p, y, h => by
    simp only [List.getElem?_cons_zero, Option.some.injEq] at h
    subst h
    rfl
  | q :: l, k + 1, p, y, h => by
    rw [List.getElem?_cons_succ] at h
    have ih := rgCells_setLo l k p y h
    have e : (k + 1) * 2 = k * 2 + 1 + 1 := by omega
    rw [e]
    show .int .i32 q.1 :: .int .i32 q.2 :: (rgCells l).set (k * 2) _ = .int .i32 q.1 :: .int .i32 q.2 :: rgCells (l.set k (y, p.2))
    rw [ih]
theorem grow_trans {w w' w'' : World} {row : Option Nat} (h : w.grownBy w' row) (h2 : w'.grownBy w'' row) : w.grownBy w'' row :=
  ⟨h2.os.trans h.os, h2.tape.trans h.tape, h2.output.trans h.output, Nat.le_trans h.size h2.size, fun k hk hne => (h2.block k (by have := h.size; omega) hne).trans (h.block k hk hne)⟩
theorem namesF {w : World} (s : ByteArray) (hs : txOf s = none) :
    Calls Try.prog 3 #[.string s] w fun e w' => e = .returned (.bool true) ∧ Below w.heap.size w w' := by
  have hn := fun W => namedOwn_any s W
  have hr := fun W => refOwn_any s W
  rw [hs] at hn hr
  simp only [NmOwn] at hn hr
  clear hs
  go_enter Try.func3, Try.ntmps3
  go_wp2_with fail
  refine (head3_any w).mono ?_
  rintro e w1 ⟨rfl, hb1⟩
  have HB := Lib.hid hb1
  have he := same_yes (RgIn.empty w1) (RgIn.empty w1) rfl
  clear hb1
  go_wp2_with fail
  refine (hn w1).mono ?_
  rintro e w2 ⟨rfl, hw⟩
  rw [hw]
  clear hw w2
  go_wp2_with fail
  refine (hr w1).mono ?_
  rintro e w2 ⟨rfl, hw⟩
  rw [hw]
  clear hw w2 hr
  go_wp2_with fail
  refine he.mono ?_
  rintro e w2 ⟨rfl, hb2⟩
  have HB2 := Lib.hid (Below.on HB.out hb2)
  have he2 := same_yes (RgIn.empty w2) (RgIn.empty w2) rfl
  clear he hb2
  go_wp2_with fail
  go_loopg [9] 1 (fun q i wr => i = .int .i64 0 ∧ w2 = wr)
  case atStart => exact ⟨rfl, rfl⟩
  case round =>
    obtain ⟨rfl, rfl⟩ := hrel
    go_wp2_with fail
    refine (hn w2).mono ?_
    rintro e w3 ⟨rfl, hw⟩
    rw [hw]
    clear hw w3 hn
    go_wp2_with fail
    refine he2.mono ?_
    rintro e w3 ⟨rfl, hb3⟩
    have HB3 := Lib.hid (Below.on HB2.out hb3)
    clear he2 hb3
    go_wp2_with fail
    go_ret
    exact ⟨rfl, HB3.out⟩
set_option maxHeartbeats 2000000 in
theorem namesT {w : World} (s : ByteArray) (L : List Rg) (hs : txOf s = some L) :
    Calls Try.prog 3 #[.string s] w fun e w' => e = .returned (.bool true) ∧ Below w.heap.size w w' := by
  have hn := fun W => namedOwn_any s W
  have hr := fun W => refOwn_any s W
  rw [hs] at hn hr
  simp only [NmOwn] at hn hr
  clear hs
  go_enter Try.func3, Try.ntmps3
  go_wp2_with fail
  refine (head3_any w).mono ?_
  rintro e w1 ⟨rfl, hb1⟩
  have HB := Lib.hid hb1
  clear hb1
  go_wp2_with fail
  refine (hn w1).mono ?_
  rintro e w2 ⟨hL, A, n, c, rfl, hA⟩
  go_wp2_with fail
  refine (hr w2).mono ?_
  rintro e w3 ⟨_, B, m, d, rfl, hB⟩
  have he := same_yes (hA.rg.below hB.below) hB.rg rfl
  have hn15 : n ≤ 15 := by rw [← hA.len]; exact hL
  have HA := Lib.hid hA
  have HBB := Lib.hid hB
  clear hr hA hB hL
  go_wp2_with fail
  refine he.mono ?_
  rintro e w4 ⟨rfl, hb4⟩
  have HB4 := Lib.hid hb4
  have hown : w4.ownsRow w1.heap.size 28 2 (.slice A n c) n (rgCells L) := ownsRow_below' (ownsRow_below' HA.out.own HBB.out.below) hb4
  have HO := Lib.hid hown
  clear he hb4 hown
  go_wp2_with fail
  go_loopg [9] (n + 1) (fun q i wr => ∃ (j : Nat) (l : List Rg), q = n + 1 - j ∧ j ≤ n ∧ i = .int .i64 (j : Int) ∧ Hid (l.length = n) ∧ Hid (wr.ownsRow w1.heap.size 28 2 (.slice A n c) n (rgCells l)) ∧ Hid (w4.grownBy wr (Value.slice A n c).ownBlock))
  case atStart => exact ⟨0, L, rfl, by omega, rfl, Lib.hid HA.out.len, HO, Lib.hid (World.grownBy.refl _ _)⟩
  case round =>
    obtain ⟨j, l, hgk, hj, rfl, HL, HOW, HGR⟩ := hrel
    have HG := Lib.hid hgk
    clear hgk
    by_cases hlt : j < n
    · have hi : (j : Int) < (n : Int) := by omega
      obtain ⟨g, cap, hv, _, _⟩ := HOW.out.form (by omega)
      injection hv with hv _ hv2
      subst hv; subst hv2
      have hjl : j < l.length := by rw [HL.out]; exact hlt
      have hp : l[j]? = some l[j] := List.getElem?_eq_getElem hjl
      generalize l[j] = p at hp
      have c1 : wr.cell? ⟨g, j * 2, none⟩ = some (.int .i32 p.1) := by
        rw [HOW.out.cellAt (j * 2) (by omega)]
        exact (rgCells_at l j p hp).1
      have f1 : wr.frozen? ⟨g, j * 2, none⟩ = false := HOW.out.frozenAt _
      have hnx : ∀ y : Int, Hid ((wr.setCell ⟨g, j * 2, none⟩ (.int .i32 y)).ownsRow w1.heap.size 28 2 (.slice (some ⟨g, 0, none⟩) n c) n (rgCells (l.set j (y, p.2))) ∧ w4.grownBy (wr.setCell ⟨g, j * 2, none⟩ (.int .i32 y)) (Value.slice (some ⟨g, 0, none⟩) n c).ownBlock) := fun y => by
        obtain ⟨q1, q2⟩ := HOW.out.stored (j * 2) (.int .i32 y)
        rw [rgCells_setLo l j p y hp] at q1
        exact Lib.hid ⟨q1, grow_trans HGR.out q2⟩
      have HNX := Lib.hid hnx
      have HLT := Lib.hid hlt
      clear hp hnx hlt hjl HO HOW HGR HA
      go_wp2_with fail
      go_roundg (n + 1 - (j + 1))
      case measure => have := HG.out; have := HLT.out; omega
      case rel => exact ⟨j + 1, l.set j (_, p.2), rfl, by have := HLT.out; omega, by go_num, Lib.hid (by rw [List.length_set]; exact HL.out), Lib.hid (HNX.out _).out.1, Lib.hid (HNX.out _).out.2⟩
    · have hjn : j = n := by omega
      subst hjn
      have hi : ¬ (j : Int) < (j : Int) := by omega
      have hrow : ∀ k, (Value.slice A j c).ownBlock = some k → w1.heap.size ≤ k ∧ k < w2.heap.size := fun k hk => HA.out.own.lt k hk
      have hBo : wr.ownsRow w2.heap.size 28 2 (.slice B m d) m (rgCells L) := by
        refine (ownsRow_below' HBB.out.own HB4.out).kept HGR.out ?_
        cases hv : (Value.slice B m d).ownBlock with
        | none => exact .inl rfl
        | some k =>
          refine .inr fun e => ?_
          have h1 := (HBB.out.own.lt k hv).1
          have h2 := (hrow k e.symm).2
          omega
      have hB2 : RgIn wr B m d L := RgIn.of_own hBo HBB.out.len (canon_fits HBB.out.canon)
      have hbel : Below w.heap.size w wr := by
        refine (Below.on (Below.on (Below.on HB.out HA.out.below) HBB.out.below) HB4.out).grown HGR.out ?_ ?_
        · have := HB.out.size; have := HA.out.below.size; have := HBB.out.below.size; have := HB4.out.size; omega
        · intro k hk
          have := (hrow k hk).1
          have := HB.out.size
          omega
      have HB2 := Lib.hid hB2
      have HE := Lib.hid hbel
      clear hrow hBo hB2 hbel hlt HO HOW HGR HBB HA
      go_wp2_with fail
      refine (hn wr).mono ?_
      rintro e w5 ⟨_, C, k, cc, rfl, hC⟩
      have he := same_yes hC.rg (HB2.out.below hC.below) rfl
      have HE2 := Lib.hid (Below.on HE.out hC.below)
      clear hC hn
      go_wp2_with fail
      refine he.mono ?_
      rintro e w6 ⟨rfl, hb6⟩
      have HE3 := Lib.hid (Below.on HE2.out hb6)
      clear he hb6
      go_wp2_with fail
      go_ret
      exact ⟨rfl, HE3.out⟩
theorem tablesNames_walk {w : World} (s : ByteArray) :
    Calls Try.prog 3 #[.string s] w fun e w' => e = .returned (.bool true) ∧ Below w.heap.size w w' := by
  cases hs : txOf s with
  | none => exact namesF s hs
  | some L => exact namesT s L hs
end Go.Proofs.Ytoglnankopdohaa
