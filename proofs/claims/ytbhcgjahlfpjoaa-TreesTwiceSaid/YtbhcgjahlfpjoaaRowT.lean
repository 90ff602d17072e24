/- How a tree opens. -/
import Derived.Test.YtbhcgjahlfpjoaaRowK2
import Derived.Test.YtbhcgjahlfpjoaaQ1
import Derived.Lib.SmallJoins
namespace Go.Proofs.Ytbhcgjahlfpjoaa
open Go.ChangeShapes Go.WideShapes Go.ChangeAt Go.RowKit Go.Deep

theorem weightsT_mem {H : Type} {P : Program} {e : TypeId} {d : DataW H} {k : Nat} : ∀ {l : List (DataW H)}, d ∈ l → k ∈ d.weights P e → k ∈ DataW.weightsAll P e l
  | x :: l, hd, hk => by
    simp only [DataW.weightsAll, List.mem_append]
    rcases List.mem_cons.1 hd with rfl | hd
    · exact .inl hk
    · exact .inr (weightsT_mem hd hk)
set_option maxRecDepth 100000 in
/-- A cell that reads as a list of ranges. -/
theorem open_rgT {H : Type} {enc : TypeId × Value → H} {W : World} {fuel : Nat} {v : Value} {x : DataW H × List MemPlace} (hm : DataW.trod enc Try.prog W 0 (fun _ => true) true fuel 24 [v] = some x) :
    ∃ (A : Option Addr) (n c : Nat) (l : List Rg), v = .slice A n c ∧ RgIn W A n c l ∧ (∀ k, (∀ q ∈ x.1.weights Try.prog 24, q ≤ k) → n * 8 ≤ k) := by
  rcases open_slice_pairs Try.underlying24 Try.underlying71 cRg rfl rfl cI32 cI32 hm with ⟨h1, _⟩ | ⟨a, len1, cap, m', n', V0, V1, D0, D1, P0, P1, h1, _, hl, hmx, hme, hxe, hx⟩
  · simp only [List.cons.injEq, and_true] at h1
    subst h1
    exact ⟨none, 0, 0, [], rfl, ⟨Rd.nil, rfl, Nat.le_refl _, Nat.zero_le _, fun _ => rfl, fun _ h => by cases h⟩, fun k _ => by omega⟩
  · simp only [List.cons.injEq, and_true] at h1
    subst h1
    simp only [if_true] at hme
    subst hme
    have hint : ∀ i, i < len1 → ∃ p : Rg, V0 i = .int .i32 p.1 ∧ V1 i = .int .i32 p.2 ∧ (-2147483648 ≤ p.1 ∧ p.1 ≤ 2147483647) ∧ (-2147483648 ≤ p.2 ∧ p.2 ≤ 2147483647) := by
      intro i hi
      obtain ⟨_, _, t0, t1⟩ := hx i (by omega)
      obtain ⟨x0, e0, _, w0⟩ := DataW.trod_int Try.underlying21 t0
      obtain ⟨x1, e1, _, w1⟩ := DataW.trod_int Try.underlying21 t1
      injection e0 with e0
      injection e1 with e1
      refine ⟨(x0, x1), e0, e1, ?_, ?_⟩
      · simpa [Lit.wf, IntKind.min, IntKind.max, IntKind.signed, IntKind.bits] using w0
      · simpa [Lit.wf, IntKind.min, IntKind.max, IntKind.signed, IntKind.bits] using w1
    obtain ⟨q, hq⟩ := choose_lt hint
    have hat : ∀ i, i < len1 → ((List.range len1).map q)[i]? = some (q i) := fun i hi => by simp [hi]
    refine ⟨some a, len1, m', (List.range len1).map q, rfl, ⟨fun hp => ?_, by simp, hl, hmx, (fun h => by cases h), fun p hp => ?_⟩, fun k hk => ?_⟩
    · rw [rgCells_length, List.length_map, List.length_range] at hp
      have hs0 := (hx 0 (by omega)).1
      rw [add_zero'] at hs0
      have hs := spot_none hs0
      obtain ⟨b, o, sp⟩ := a
      simp only at hs
      subst hs
      refine ⟨b, o, rfl, Nat.zero_le _, ?_, fun j u hj => ?_⟩
      · have := (hx 0 (by omega)).1
        rw [add_plain] at this
        rcases Nat.lt_or_ge b W.heap.size with h | h
        · exact h
        · unfold World.cell? at this
          dsimp only at this
          rw [Array.getElem?_eq_none h] at this
          cases this
      · have hjl : j < len1 * 2 := by
          have := (List.getElem?_eq_some_iff.1 hj).1
          rw [rgCells_length, List.length_map, List.length_range] at this
          exact this
        obtain ⟨g0, g1⟩ := rgCells_at _ (j / 2) _ (hat (j / 2) (by omega))
        obtain ⟨k0, k1, _⟩ := hx (j / 2) (by omega)
        obtain ⟨v0, v1, _⟩ := hq (j / 2) (by omega)
        rw [add_plain] at k0 k1
        rcases Nat.mod_two_eq_zero_or_one j with h | h
        · have e : j = j / 2 * 2 := by omega
          rw [← e] at g0 k0
          rw [g0] at hj
          injection hj with hj
          rw [k0, v0, hj]
        · have e : j = j / 2 * 2 + 1 := by omega
          rw [← e] at g1 k1
          rw [g1] at hj
          injection hj with hj
          rw [k1, v1, hj]
    · obtain ⟨i, hi, rfl⟩ := List.mem_map.1 hp
      exact (hq i (List.mem_range.1 hi)).2.2
    · have e := congrArg Prod.fst hxe
      have := hk _ (by rw [e]; unfold DataW.weights; rw [Try.underlying24]; exact List.mem_cons_self ..)
      rw [bRg, List.length_map, List.length_range] at this
      have h2 : len1 * 8 ≤ (len1 + ((List.range (m' - len1)).map fun j => DataW.agg [D0 (len1 + j), D1 (len1 + j)]).length) * 8 := Nat.mul_le_mul_right _ (Nat.le_add_right _ _)
      exact Nat.le_trans h2 this
instance : Inhabited (Tr × TA) := ⟨(⟨0, [], 0, [], 0, 0, ⟨#[]⟩, 0, 0, false⟩, ⟨none, 0, 0, none, 0, 0⟩)⟩
theorem list10 {α : Type} {l : List α} (h : l.length = 10) : ∃ a b c d e f g i j k, l = [a, b, c, d, e, f, g, i, j, k] := by
  match l, h with
  | [a, b, c, d, e, f, g, i, j, k], _ => exact ⟨a, b, c, d, e, f, g, i, j, k, rfl⟩
theorem ctTree : Try.prog.cellsOf 27 = 10 := by kernel_rfl
theorem ctTrees : Try.prog.cellsOf 23 = 1 := by kernel_rfl
theorem ctRgs : Try.prog.cellsOf 24 = 1 := by kernel_rfl
theorem ctOp : Try.prog.cellsOf 22 = 1 := by kernel_rfl
theorem ctAt : Try.prog.cellsOf 25 = 1 := by kernel_rfl
theorem ctInt : Try.prog.cellsOf 3 = 1 := by kernel_rfl
theorem ctI32 : Try.prog.cellsOf 21 = 1 := by kernel_rfl
theorem ctStr : Try.prog.cellsOf 9 = 1 := by kernel_rfl
theorem ctBool : Try.prog.cellsOf 4 = 1 := by kernel_rfl
set_option maxRecDepth 100000 in
/-- Ten cells that read as a tree. -/
theorem open_tr {H : Type} {enc : TypeId × Value → H} {W : World} (fuel : Nat) : ∀ {cs : List Value} {x : DataW H × List MemPlace}, DataW.trod enc Try.prog W 0 (fun _ => true) true fuel 27 cs = some x → (∀ q ∈ x.1.weights Try.prog 27, q ≤ 140737488351232) → ∃ (t : Tr) (a : TA), cs = t.cells a ∧ TIn W t a := by
  induction fuel using Nat.strongRecOn with
  | ind fuel IH =>
  intro cs x hm hk
  obtain ⟨xs, n, hn, hxe, hl, hxl, hf⟩ := DataW.trod_struct Try.underlying27 hm
  rw [ctTree] at hl
  obtain ⟨c0, c1, c2, c3, c4, c5, c6, c7, c8, c9, rfl⟩ := list10 hl
  obtain ⟨y0, y1, y2, y3, y4, y5, y6, y7, y8, y9, rfl⟩ := list10 (show xs.length = 10 from hxl)
  have h0 : DataW.trod enc Try.prog W 0 (fun _ => true) true n 22 [c0] = some y0 := by have := hf 0 _ rfl; simpa [ctOp] using this
  have h1 : DataW.trod enc Try.prog W 0 (fun _ => true) true n 23 [c1] = some y1 := by have := hf 1 _ rfl; simpa [ctTrees] using this
  have h2 : DataW.trod enc Try.prog W 0 (fun _ => true) true n 21 [c2] = some y2 := by have := hf 2 _ rfl; simpa [ctI32] using this
  have h3 : DataW.trod enc Try.prog W 0 (fun _ => true) true n 24 [c3] = some y3 := by have := hf 3 _ rfl; simpa [ctRgs] using this
  have h4 : DataW.trod enc Try.prog W 0 (fun _ => true) true n 25 [c4] = some y4 := by have := hf 4 _ rfl; simpa [ctAt] using this
  have h5 : DataW.trod enc Try.prog W 0 (fun _ => true) true n 3 [c5] = some y5 := by have := hf 5 _ rfl; simpa [ctInt] using this
  have h6 : DataW.trod enc Try.prog W 0 (fun _ => true) true n 9 [c6] = some y6 := by have := hf 6 _ rfl; simpa [ctStr] using this
  have h7 : DataW.trod enc Try.prog W 0 (fun _ => true) true n 3 [c7] = some y7 := by have := hf 7 _ rfl; simpa [ctInt] using this
  have h8 : DataW.trod enc Try.prog W 0 (fun _ => true) true n 3 [c8] = some y8 := by have := hf 8 _ rfl; simpa [ctInt] using this
  have h9 : DataW.trod enc Try.prog W 0 (fun _ => true) true n 4 [c9] = some y9 := by have := hf 9 _ rfl; simpa [ctBool] using this
  obtain ⟨x0, e0, _, _⟩ := DataW.trod_int Try.underlying22 h0
  obtain ⟨x2, e2, _, _⟩ := DataW.trod_int Try.underlying21 h2
  obtain ⟨x4, e4, _, _⟩ := DataW.trod_int Try.underlying25 h4
  obtain ⟨x5, e5, _, _⟩ := DataW.trod_int Try.underlying3 h5
  obtain ⟨x6, e6, _, hnm⟩ := DataW.trod_string Try.underlying9 h6
  obtain ⟨x7, e7, _, _⟩ := DataW.trod_int Try.underlying3 h7
  obtain ⟨x8, e8, _, _⟩ := DataW.trod_int Try.underlying3 h8
  obtain ⟨x9, e9, _⟩ := DataW.trod_bool Try.underlying4 h9
  obtain ⟨A, m, c, l, e3, hr, hw⟩ := open_rgT h3
  simp only [List.cons.injEq, and_true] at e0 e2 e4 e5 e6 e7 e8 e9
  subst e0; subst e2; subst e3; subst e4; subst e5; subst e6; subst e7; subst e8; subst e9
  have hwt : ∀ (j : Nat) (t : TypeId) (y : DataW H × List MemPlace), ([22, 23, 21, 24, 25, 3, 9, 3, 3, 4] : List TypeId)[j]? = some t → ([y0, y1, y2, y3, y4, y5, y6, y7, y8, y9] : List (DataW H × List MemPlace))[j]? = some y → ∀ q ∈ y.1.weights Try.prog t, q ≤ 140737488351232 := fun j t y ht hy q hq => by
    refine hk q ?_
    rw [congrArg Prod.fst hxe]
    unfold DataW.weights
    rw [Try.underlying27]
    exact DataW.weights_mem_each (j := j) (t := t) (d := y.1) ht (by rw [List.getElem?_map, hy]; rfl) q hq
  have hfit : m ≤ 17592186043904 := by
    have := hw 140737488351232 (hwt 3 _ y3 rfl rfl)
    omega
  rcases DataW.trod_slice Try.underlying23 h1 with ⟨e1, _⟩ | ⟨a, len, cap, elems, rest, n', hn', e1, hx1, _, hle, hmx, hel, hat, _, _⟩
  · simp only [List.cons.injEq, and_true] at e1
    subst e1
    exact ⟨⟨x0, [], x2, l, x4, x5, x6, x7, x8, x9⟩, ⟨none, 0, 0, A, m, c⟩, rfl, .mk (fun _ => ⟨none, 0, 0, none, 0, 0⟩) hr rfl (Nat.le_refl _) (Nat.zero_le _) (fun _ => rfl) hnm hfit (fun h => absurd h (Nat.lt_irrefl _)) (fun i k h => by simp at h)⟩
  · simp only [List.cons.injEq, and_true] at e1
    subst e1
    rw [ctTree] at hat
    have each : ∀ i, i < len → ∃ z : Tr × TA, W.cells? 0 (a.add (i * 10)) 10 = some (z.1.cells z.2) ∧ TIn W z.1 z.2 := fun i hi => by
      have h := hat i hi
      obtain ⟨e, he⟩ : ∃ e, elems[i]? = some e := ⟨_, List.getElem?_eq_getElem (by omega)⟩
      rw [he] at h
      obtain ⟨cs', g1, g2⟩ := Option.bind_eq_some_iff.1 h
      obtain ⟨t, a', rfl, ht⟩ := IH n' (by omega) g2 fun q hq => by
        refine hwt 1 _ y1 rfl rfl q ?_
        rw [congrArg Prod.fst hx1]
        unfold DataW.weights
        rw [Try.underlying23]
        exact List.mem_cons_of_mem _ (List.mem_append.2 (.inl (weightsT_mem (d := e.1) (List.mem_map.2 ⟨e, List.mem_of_getElem? he, rfl⟩) hq)))
      exact ⟨(t, a'), g1, ht⟩
    obtain ⟨q, hq⟩ := choose_lt each
    have hkid : ∀ (i : Nat) (k : Tr), ((List.range len).map fun i => (q i).1)[i]? = some k → i < len ∧ k = (q i).1 := fun i k h => by
      have hi : i < len := by have := (List.getElem?_eq_some_iff.1 h).1; simpa using this
      simp [hi] at h
      exact ⟨hi, h.symm⟩
    refine ⟨⟨x0, (List.range len).map fun i => (q i).1, x2, l, x4, x5, x6, x7, x8, x9⟩, ⟨some a, len, cap, A, m, c⟩, rfl, .mk (fun i => (q i).2) hr (by simp) hle hmx (fun h => by cases h) hnm hfit (fun hp => ?_) (fun i k h => ?_)⟩
    · have hcell : ∀ i, i < len → ∀ j, j < 10 → W.cell? ((a.add (i * 10)).add j) = ((q i).1.cells (q i).2)[j]? := fun i hi j hj => (World.cells?_some (hq i hi).1).2.2 j hj
      have hs0 := hcell 0 hp 0 (by omega)
      have e0 : ((q 0).1.cells (q 0).2)[0]? = some (.int .i64 (q 0).1.op) := rfl
      rw [e0, add_add, Nat.zero_mul] at hs0
      have hs : a.spot = none := by
        have := spot_none hs0
        simpa [Addr.add] using this
      obtain ⟨b, o, sp⟩ := a
      simp only at hs
      subst hs
      have hb : b < W.heap.size := by
        rw [add_plain] at hs0
        rcases Nat.lt_or_ge b W.heap.size with h | h
        · exact h
        · unfold World.cell? at hs0
          dsimp only at hs0
          rw [Array.getElem?_eq_none h] at hs0
          cases hs0
      refine ⟨b, o, rfl, hb, fun i k hk' j v hv => ?_⟩
      obtain ⟨hi, rfl⟩ := hkid i k hk'
      have hj : j < 10 := by have := (List.getElem?_eq_some_iff.1 hv).1; simpa [Tr.cells] using this
      have := hcell i hi j hj
      rw [add_add, add_plain] at this
      rw [this, hv]
    · obtain ⟨hi, rfl⟩ := hkid i k h
      exact (hq i hi).2
set_option maxRecDepth 100000 in
theorem open_tree {H : Type} {enc : TypeId × Value → H} {W : World} {base : Nat} {v : Value} {d : DataW H} {p : List MemPlace} (hv : Value.okWide Try.prog W .any base 27 v) (h : DataW.Trod enc Try.prog W 0 (fun _ => true) true 27 v d p) (hk : ∀ q ∈ d.weights Try.prog 27, q ≤ 140737488351232) :
    ∃ (t : Tr) (kA : Option Addr) (kn kc : Nat) (sA : Option Addr) (sn sc : Nat), v = .agg #[.int .i64 t.op, .slice kA kn kc, .int .i32 t.rune, .slice sA sn sc, .int .i64 t.at_, .int .i64 t.cap, .string t.name, .int .i64 t.mn, .int .i64 t.mx, .bool t.lzy] ∧ TIn W t ⟨kA, kn, kc, sA, sn, sc⟩ := by
  obtain ⟨cs, rfl, _⟩ := okWide_struct Try.underlying27 hv
  obtain ⟨fuel, hf⟩ := h
  obtain ⟨t, a, he, ht⟩ := open_tr fuel hf hk
  obtain ⟨kA, kn, kc, sA, sn, sc⟩ := a
  refine ⟨t, kA, kn, kc, sA, sn, sc, ?_, ht⟩
  congr 1
  exact Array.toList_inj.1 he
end Go.Proofs.Ytbhcgjahlfpjoaa
