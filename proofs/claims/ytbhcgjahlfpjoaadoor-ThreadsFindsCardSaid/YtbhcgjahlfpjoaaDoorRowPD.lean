/- How a program opens: its instructions, their sets; a list of ints. -/
import Derived.Test.YtbhcgjahlfpjoaaDoorRowK2
import Derived.Test.YtbhcgjahlfpjoaaDoorTl1
import Derived.Lib.SmallJoins
namespace Go.Proofs.YtbhcgjahlfpjoaaDoor
open Go.ChangeShapes Go.WideShapes Go.ChangeAt Go.RowKit Go.Deep

theorem weights_mem_all {H : Type} {P : Program} {e : TypeId} {d : DataW H} {k : Nat} : ∀ {l : List (DataW H)}, d ∈ l → k ∈ d.weights P e → k ∈ DataW.weightsAll P e l
  | x :: l, hd, hk => by
    simp only [DataW.weightsAll, List.mem_append]
    rcases List.mem_cons.1 hd with rfl | hd
    · exact .inl hk
    · exact .inr (weights_mem_all hd hk)

set_option maxRecDepth 100000 in
/-- A cell that reads as a list of ranges. -/
theorem open_rgC {H : Type} {enc : TypeId × Value → H} {W : World} {fuel : Nat} {v : Value} {x : DataW H × List MemPlace} (hm : DataW.trod enc Tryd.prog W 0 (fun _ => true) true fuel 61 [v] = some x) :
    ∃ (A : Option Addr) (n c : Nat) (l : List Rg), v = .slice A n c ∧ RgIn W A n c l ∧ (∀ k, (∀ q ∈ x.1.weights Tryd.prog 61, q ≤ k) → n * 8 ≤ k) := by
  rcases open_slice_pairs Tryd.underlying61 Tryd.underlying66 cRg rfl rfl cI32 cI32 hm with ⟨h1, _⟩ | ⟨a, len1, cap, m', n', V0, V1, D0, D1, P0, P1, h1, _, hl, hmx, hme, hxe, hx⟩
  · simp only [List.cons.injEq, and_true] at h1
    subst h1
    exact ⟨none, 0, 0, [], rfl, ⟨Rd.nil, rfl, Nat.le_refl _, Nat.zero_le _, fun _ => rfl, fun _ h => by cases h⟩, fun k _ => by omega⟩
  · simp only [List.cons.injEq, and_true] at h1
    subst h1
    simp only [if_true] at hme
    subst hme
    have hint : ∀ i, i < len1 → ∃ p : Rg, V0 i = .int .i32 p.1 ∧ V1 i = .int .i32 p.2 ∧ (-2147483648 ≤ p.1 ∧ p.1 ≤ 2147483647) ∧ (-2147483648 ≤ p.2 ∧ p.2 ≤ 2147483647) := by
      intro i hi
      obtain ⟨_, _, t0, t1⟩ := hx i (by omega)
      obtain ⟨x0, e0, _, w0⟩ := DataW.trod_int Tryd.underlying21 t0
      obtain ⟨x1, e1, _, w1⟩ := DataW.trod_int Tryd.underlying21 t1
      injection e0 with e0
      injection e1 with e1
      refine ⟨(x0, x1), e0, e1, ?_, ?_⟩
      · simpa [Lit.wf, IntKind.min, IntKind.max, IntKind.signed, IntKind.bits] using w0
      · simpa [Lit.wf, IntKind.min, IntKind.max, IntKind.signed, IntKind.bits] using w1
    obtain ⟨q, hq⟩ := choose_lt hint
    have hat : ∀ i, i < len1 → ((List.range len1).map q)[i]? = some (q i) := fun i hi => by simp [hi]
    refine ⟨some a, len1, m', (List.range len1).map q, rfl, ⟨fun hp => ?_, by simp, hl, hmx, (fun h => by cases h), fun p hp => ?_⟩, fun k hk => ?_⟩
    · rw [rgCells_length, List.length_map, List.length_range] at hp
      have hs0 := (hx 0 (by omega)).1
      rw [add_zero'] at hs0
      have hs := spot_none hs0
      obtain ⟨b, o, sp⟩ := a
      simp only at hs
      subst hs
      refine ⟨b, o, rfl, Nat.zero_le _, ?_, fun j u hj => ?_⟩
      · have := (hx 0 (by omega)).1
        rw [add_plain] at this
        rcases Nat.lt_or_ge b W.heap.size with h | h
        · exact h
        · unfold World.cell? at this
          dsimp only at this
          rw [Array.getElem?_eq_none h] at this
          cases this
      · have hjl : j < len1 * 2 := by
          have := (List.getElem?_eq_some_iff.1 hj).1
          rw [rgCells_length, List.length_map, List.length_range] at this
          exact this
        obtain ⟨g0, g1⟩ := rgCells_at _ (j / 2) _ (hat (j / 2) (by omega))
        obtain ⟨k0, k1, _⟩ := hx (j / 2) (by omega)
        obtain ⟨v0, v1, _⟩ := hq (j / 2) (by omega)
        rw [add_plain] at k0 k1
        rcases Nat.mod_two_eq_zero_or_one j with h | h
        · have e : j = j / 2 * 2 := by omega
          rw [← e] at g0 k0
          rw [g0] at hj
          injection hj with hj
          rw [k0, v0, hj]
        · have e : j = j / 2 * 2 + 1 := by omega
          rw [← e] at g1 k1
          rw [g1] at hj
          injection hj with hj
          rw [k1, v1, hj]
    · obtain ⟨i, hi, rfl⟩ := List.mem_map.1 hp
      exact (hq i (List.mem_range.1 hi)).2.2
    · have e := congrArg Prod.fst hxe
      have := hk _ (by rw [e]; unfold DataW.weights; rw [Tryd.underlying61]; exact List.mem_cons_self ..)
      rw [bRg, List.length_map, List.length_range] at this
      have h2 : len1 * 8 ≤ (len1 + ((List.range (m' - len1)).map fun j => DataW.agg [D0 (len1 + j), D1 (len1 + j)]).length) * 8 := Nat.mul_le_mul_right _ (Nat.le_add_right _ _)
      exact Nat.le_trans h2 this
instance : Inhabited MI := ⟨⟨0, 0, 0, none, 0, 0, 0, []⟩⟩
theorem list5 {α : Type} {l : List α} (h : l.length = 5) : ∃ a b c d e, l = [a, b, c, d, e] := by
  match l, h with
  | [a, b, c, d, e], _ => exact ⟨a, b, c, d, e, rfl⟩
theorem cInst : Tryd.prog.cellsOf 64 = 5 := by kernel_rfl
theorem cInt : Tryd.prog.cellsOf 3 = 1 := by kernel_rfl
theorem cOp : Tryd.prog.cellsOf 60 = 1 := by kernel_rfl
theorem cAt : Tryd.prog.cellsOf 62 = 1 := by kernel_rfl
theorem cRgs : Tryd.prog.cellsOf 61 = 1 := by kernel_rfl
theorem bInt : Tryd.prog.bytesOf 3 = 8 := by kernel_rfl
theorem bInst : Tryd.prog.bytesOf 64 = 56 := by kernel_rfl
set_option maxRecDepth 100000 in
/-- Five cells that read as an instruction. -/
theorem open_inst {H : Type} {enc : TypeId × Value → H} {W : World} {fuel : Nat} {cs : List Value} {x : DataW H × List MemPlace} (hm : DataW.trod enc Tryd.prog W 0 (fun _ => true) true fuel 64 cs = some x) :
    ∃ y : MI, cs = y.cells ∧ y.In W ∧ (∀ k, (∀ q ∈ x.1.weights Tryd.prog 64, q ≤ k) → y.n * 8 ≤ k) := by
  obtain ⟨xs, n, _, hxe, hl, hxl, hf⟩ := DataW.trod_struct Tryd.underlying64 hm
  rw [cInst] at hl
  obtain ⟨c0, c1, c2, c3, c4, rfl⟩ := list5 hl
  obtain ⟨y0, y1, y2, y3, y4, rfl⟩ := list5 (show xs.length = 5 from hxl)
  have h0 : DataW.trod enc Tryd.prog W 0 (fun _ => true) true n 60 [c0] = some y0 := by have := hf 0 _ rfl; simpa [cOp] using this
  have h1 : DataW.trod enc Tryd.prog W 0 (fun _ => true) true n 3 [c1] = some y1 := by have := hf 1 _ rfl; simpa [cInt] using this
  have h2 : DataW.trod enc Tryd.prog W 0 (fun _ => true) true n 3 [c2] = some y2 := by have := hf 2 _ rfl; simpa [cInt] using this
  have h3 : DataW.trod enc Tryd.prog W 0 (fun _ => true) true n 61 [c3] = some y3 := by have := hf 3 _ rfl; simpa [cRgs] using this
  have h4 : DataW.trod enc Tryd.prog W 0 (fun _ => true) true n 62 [c4] = some y4 := by have := hf 4 _ rfl; simpa [cAt] using this
  obtain ⟨x0, e0, _, _⟩ := DataW.trod_int Tryd.underlying60 h0
  obtain ⟨x1, e1, _, _⟩ := DataW.trod_int Tryd.underlying3 h1
  obtain ⟨x2, e2, _, _⟩ := DataW.trod_int Tryd.underlying3 h2
  obtain ⟨x4, e4, _, _⟩ := DataW.trod_int Tryd.underlying62 h4
  obtain ⟨A, m, c, l, e3, hr, hw⟩ := open_rgC h3
  simp only [List.cons.injEq, and_true] at e0 e1 e2 e4
  subst e0; subst e1; subst e2; subst e3; subst e4
  refine ⟨⟨x0, x1, x2, A, m, c, x4, l⟩, rfl, hr, fun k hk => hw k fun q hq => hk q ?_⟩
  have e := congrArg Prod.fst hxe
  rw [e]
  unfold DataW.weights
  rw [Tryd.underlying64]
  exact DataW.weights_mem_each (j := 3) rfl rfl q hq
set_option maxRecDepth 100000 in
theorem open_pg {H : Type} {enc : TypeId × Value → H} {W : World} {base : Nat} {v : Value} {d : DataW H} {p : List MemPlace} (hv : Value.okWide Tryd.prog W .any base 28 v) (h : DataW.Trod enc Tryd.prog W 0 (fun _ => true) true 28 v d p) :
    ∃ (A : Option Addr) (n c : Nat) (st cp : Int) (L : List MI), v = .agg #[.slice A n c, .int .i64 st, .int .i64 cp] ∧ PgIn W A n c L ∧ (∀ k, (∀ q ∈ d.weights Tryd.prog 28, q ≤ k) → n * 56 ≤ k ∧ ∀ x ∈ L, x.n * 8 ≤ k) := by
  obtain ⟨v0, v1, v2, y0, y1, y2, fu, rfl, rfl, _, h0, h1, h2⟩ := Go.Joins.open_agg3 Tryd.underlying28 (by kernel_rfl) (by kernel_rfl) hv h
  obtain ⟨st, e1, _, _⟩ := DataW.trod_int Tryd.underlying3 h1
  obtain ⟨cp, e2, _, _⟩ := DataW.trod_int Tryd.underlying3 h2
  simp only [List.cons.injEq, and_true] at e1 e2
  subst e1; subst e2
  have hwt : ∀ q ∈ y0.1.weights Tryd.prog 26, q ∈ (DataW.agg [y0.1, y1.1, y2.1]).weights Tryd.prog 28 := fun q hq => by
    rw [DataW.weights, Tryd.underlying28]
    exact DataW.weights_mem_each (j := 0) rfl rfl q hq
  rcases open_slice Tryd.underlying26 h0 with ⟨e0, hy0⟩ | ⟨a, len, cap, m, n', D, Pl, e0, _, hl, hmx, hme, hxe, hx⟩
  · simp only [List.cons.injEq, and_true] at e0
    subst e0
    exact ⟨none, 0, 0, st, cp, [], rfl, ⟨Rd.nil, rfl, Nat.le_refl _, Nat.zero_le _, fun _ => rfl, fun _ h => by cases h⟩, fun k _ => ⟨by omega, fun _ h => by cases h⟩⟩
  · simp only [List.cons.injEq, and_true] at e0
    subst e0
    simp only [if_true] at hme
    subst hme
    rw [cInst] at hx
    have each : ∀ i, i < len → ∃ y : MI, W.cells? 0 (a.add (i * 5)) 5 = some y.cells ∧ y.In W ∧ (∀ k, (∀ q ∈ (D i).weights Tryd.prog 64, q ≤ k) → y.n * 8 ≤ k) := fun i hi => by
      obtain ⟨cs', g1, g2⟩ := hx i (by omega)
      obtain ⟨y, rfl, k1, k2⟩ := open_inst g2
      exact ⟨y, g1, k1, k2⟩
    obtain ⟨q, hq⟩ := choose_lt each
    have hat : ∀ i, i < len → ((List.range len).map q)[i]? = some (q i) := fun i hi => by simp [hi]
    refine ⟨some a, len, m, st, cp, (List.range len).map q, rfl, ⟨fun hp => ?_, by simp, hl, hmx, (fun h => by cases h), fun x hx' => ?_⟩, fun k hk => ⟨?_, fun x hx' => ?_⟩⟩
    · rw [miCells_length, List.length_map, List.length_range] at hp
      have hcell : ∀ i, i < len → ∀ j, j < 5 → W.cell? ((a.add (i * 5)).add j) = (q i).cells[j]? := fun i hi j hj => (World.cells?_some (hq i hi).1).2.2 j hj
      have hs0 := hcell 0 (by omega) 0 (by omega)
      have e0 : (q 0).cells[0]? = some (.int .i64 (q 0).op) := rfl
      rw [e0, add_add, Nat.zero_mul] at hs0
      have hs : a.spot = none := by
        have := spot_none hs0
        simpa [Addr.add] using this
      obtain ⟨b, o, sp⟩ := a
      simp only at hs
      subst hs
      have hb : b < W.heap.size := by
        rw [add_plain] at hs0
        rcases Nat.lt_or_ge b W.heap.size with h | h
        · exact h
        · unfold World.cell? at hs0
          dsimp only at hs0
          rw [Array.getElem?_eq_none h] at hs0
          cases hs0
      refine ⟨b, o, rfl, Nat.zero_le _, hb, fun j u hj => ?_⟩
      have hjl : j < len * 5 := by
        have := (List.getElem?_eq_some_iff.1 hj).1
        rw [miCells_length, List.length_map, List.length_range] at this
        exact this
      have h5 := miCells_at _ (j / 5) _ (hat (j / 5) (by omega)) (j % 5) (by omega)
      have e : j / 5 * 5 + j % 5 = j := by omega
      rw [e, hj] at h5
      have := hcell (j / 5) (by omega) (j % 5) (by omega)
      rw [← h5, add_add, e, add_plain] at this
      exact this
    · obtain ⟨i, hi, rfl⟩ := List.mem_map.1 hx'
      exact (hq i (List.mem_range.1 hi)).2.1
    · have e := congrArg Prod.fst hxe
      have := hk _ (hwt _ (by rw [e]; unfold DataW.weights; rw [Tryd.underlying26]; exact List.mem_cons_self ..))
      rw [bInst, List.length_map, List.length_range] at this
      exact Nat.le_trans (Nat.mul_le_mul_right _ (Nat.le_add_right _ _)) this
    · obtain ⟨i, hi, rfl⟩ := List.mem_map.1 hx'
      have hi' := List.mem_range.1 hi
      refine (hq i hi').2.2 k fun z hz => hk z (hwt z ?_)
      have e := congrArg Prod.fst hxe
      rw [e]
      unfold DataW.weights
      rw [Tryd.underlying26]
      refine List.mem_cons_of_mem _ (List.mem_append.2 (.inl (weights_mem_all (d := D i) ?_ hz)))
      exact List.mem_map.2 ⟨i, hi, rfl⟩
set_option maxRecDepth 100000 in
theorem open_il {H : Type} {enc : TypeId × Value → H} {W : World} {base : Nat} {v : Value} {d : DataW H} {p : List MemPlace} (hv : Value.okWide Tryd.prog W .any base 35 v) (h : DataW.Trod enc Tryd.prog W 0 (fun _ => true) true 35 v d p) :
    ∃ (A : Option Addr) (n c : Nat) (l : List Int), v = .slice A n c ∧ IlIn W A n c l ∧ (∀ k, (∀ q ∈ d.weights Tryd.prog 35, q ≤ k) → n * 8 ≤ k) := by
  obtain ⟨a1, len1, cap1, rfl⟩ := okWide_slice Tryd.underlying35 hv
  obtain ⟨m, hm⟩ := h
  rcases open_slice1 Tryd.underlying35 cInt hm with ⟨h1, _⟩ | ⟨a, len, cap, m', n', V, D, Pl, h1, _, hl, hmx, hme, hxe, hx⟩
  · simp [Value.cells] at h1
    obtain ⟨rfl, rfl, rfl⟩ := h1
    exact ⟨none, 0, 0, [], rfl, ⟨Rd.nil, rfl, Nat.le_refl _, Nat.zero_le _, fun _ => rfl⟩, fun k _ => by omega⟩
  · simp [Value.cells] at h1
    obtain ⟨rfl, rfl, rfl⟩ := h1
    simp only [if_true] at hme
    subst hme
    have hint : ∀ i, i < len1 → ∃ z : Int, V i = .int .i64 z := fun i hi => by
      obtain ⟨x0, e0, _, _⟩ := DataW.trod_int Tryd.underlying3 (hx i (by omega)).2
      injection e0 with e0
      exact ⟨x0, e0⟩
    obtain ⟨q, hq⟩ := choose_lt hint
    refine ⟨some a, len1, m', (List.range len1).map q, rfl, ⟨fun hp => ?_, by simp, hl, hmx, (fun h => by cases h)⟩, fun k hk => ?_⟩
    rotate_left
    · have e := congrArg Prod.fst hxe
      simp only at e
      have := hk _ (by rw [e]; unfold DataW.weights; rw [Tryd.underlying35]; exact List.mem_cons_self ..)
      rw [bInt, List.length_map, List.length_range] at this
      exact Nat.le_trans (Nat.mul_le_mul_right _ (Nat.le_add_right _ _)) this
    rw [i64s_length, List.length_map, List.length_range] at hp
    have hs0 := (hx 0 (by omega)).1
    have hs : a.spot = none := by
      have := spot_none hs0
      simpa [Addr.add] using this
    obtain ⟨b, o, sp⟩ := a
    simp only at hs
    subst hs
    have hb : b < W.heap.size := by
      rw [add_plain] at hs0
      rcases Nat.lt_or_ge b W.heap.size with h | h
      · exact h
      · unfold World.cell? at hs0
        dsimp only at hs0
        rw [Array.getElem?_eq_none h] at hs0
        cases hs0
    refine ⟨b, o, rfl, Nat.zero_le _, hb, fun j u hj => ?_⟩
    have hjl : j < len1 := by
      have := (List.getElem?_eq_some_iff.1 hj).1
      rw [i64s_length, List.length_map, List.length_range] at this
      exact this
    have h1 := (hx j (by omega)).1
    rw [add_plain, hq j hjl] at h1
    have h2 : (i64s ((List.range len1).map q))[j]? = some (.int .i64 (q j)) := i64s_at (by simp [hjl])
    rw [h2] at hj
    injection hj with hj
    rw [← hj]
    exact h1
end Go.Proofs.YtbhcgjahlfpjoaaDoor
