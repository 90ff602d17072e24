/- How a machine's question opens. -/
import Derived.Test.YtbhcgjahlfpjoaaDoorRowPD
import Derived.Test.YtbhcgjahlfpjoaaDoorLwAgain
namespace Go.Proofs.YtbhcgjahlfpjoaaDoor
open Go.ChangeShapes Go.WideShapes Go.ChangeAt Go.RowKit Go.Deep

theorem cInsts : Tryd.prog.cellsOf 26 = 1 := by kernel_rfl
theorem cPr : Tryd.prog.cellsOf 28 = 3 := by kernel_rfl
theorem cAsk : Tryd.prog.cellsOf 31 = 7 := by kernel_rfl
theorem cBy : Tryd.prog.cellsOf 29 = 1 := by kernel_rfl
theorem cU : Tryd.prog.cellsOf 5 = 1 := by kernel_rfl
theorem cBo : Tryd.prog.cellsOf 4 = 1 := by kernel_rfl
theorem list7 {α : Type} {l : List α} (h : l.length = 7) : ∃ a b c d e f g, l = [a, b, c, d, e, f, g] := by
  match l, h with
  | [a, b, c, d, e, f, g], _ => exact ⟨a, b, c, d, e, f, g, rfl⟩
set_option maxRecDepth 100000 in
theorem open_pgC {H : Type} {enc : TypeId × Value → H} {W : World} {fuel : Nat} {v0 v1 v2 : Value} {x : DataW H × List MemPlace} (hm : DataW.trod enc Tryd.prog W 0 (fun _ => true) true fuel 28 [v0, v1, v2] = some x) :
    ∃ (A : Option Addr) (n c : Nat) (st cp : Int) (L : List MI), [v0, v1, v2] = [.slice A n c, .int .i64 st, .int .i64 cp] ∧ PgIn W A n c L ∧ (∀ k, (∀ q ∈ x.1.weights Tryd.prog 28, q ≤ k) → n * 56 ≤ k ∧ ∀ x ∈ L, x.n * 8 ≤ k) := by
  obtain ⟨y0, y1, y2, fu, hxx, _, h0', h1', h2'⟩ := trod_struct3 Tryd.underlying28 hm
  subst hxx
  have h0 : DataW.trod enc Tryd.prog W 0 (fun _ => true) true fu 26 [v0] = some y0 := by simpa [cInsts] using h0'
  have h1 : DataW.trod enc Tryd.prog W 0 (fun _ => true) true fu 3 [v1] = some y1 := by simpa [cInt] using h1'
  have h2 : DataW.trod enc Tryd.prog W 0 (fun _ => true) true fu 3 [v2] = some y2 := by simpa [cInt] using h2'
  clear h0' h1' h2'
  obtain ⟨st, e1, _, _⟩ := DataW.trod_int Tryd.underlying3 h1
  obtain ⟨cp, e2, _, _⟩ := DataW.trod_int Tryd.underlying3 h2
  simp only [List.cons.injEq, and_true] at e1 e2
  subst e1; subst e2
  have hwt : ∀ q ∈ y0.1.weights Tryd.prog 26, q ∈ (DataW.agg [y0.1, y1.1, y2.1]).weights Tryd.prog 28 := fun q hq => by
    rw [DataW.weights, Tryd.underlying28]
    exact DataW.weights_mem_each (j := 0) rfl rfl q hq
  rcases open_slice Tryd.underlying26 h0 with ⟨e0, hy0⟩ | ⟨a, len, cap, m, n', D, Pl, e0, _, hl, hmx, hme, hxe, hx⟩
  · simp only [List.cons.injEq, and_true] at e0
    subst e0
    exact ⟨none, 0, 0, st, cp, [], rfl, ⟨Rd.nil, rfl, Nat.le_refl _, Nat.zero_le _, fun _ => rfl, fun _ h => by cases h⟩, fun k _ => ⟨by omega, fun _ h => by cases h⟩⟩
  · simp only [List.cons.injEq, and_true] at e0
    subst e0
    simp only [if_true] at hme
    subst hme
    rw [cInst] at hx
    have each : ∀ i, i < len → ∃ y : MI, W.cells? 0 (a.add (i * 5)) 5 = some y.cells ∧ y.In W ∧ (∀ k, (∀ q ∈ (D i).weights Tryd.prog 64, q ≤ k) → y.n * 8 ≤ k) := fun i hi => by
      obtain ⟨cs', g1, g2⟩ := hx i (by omega)
      obtain ⟨y, rfl, k1, k2⟩ := open_inst g2
      exact ⟨y, g1, k1, k2⟩
    obtain ⟨q, hq⟩ := choose_lt each
    have hat : ∀ i, i < len → ((List.range len).map q)[i]? = some (q i) := fun i hi => by simp [hi]
    refine ⟨some a, len, m, st, cp, (List.range len).map q, rfl, ⟨fun hp => ?_, by simp, hl, hmx, (fun h => by cases h), fun x hx' => ?_⟩, fun k hk => ⟨?_, fun x hx' => ?_⟩⟩
    · rw [miCells_length, List.length_map, List.length_range] at hp
      have hcell : ∀ i, i < len → ∀ j, j < 5 → W.cell? ((a.add (i * 5)).add j) = (q i).cells[j]? := fun i hi j hj => (World.cells?_some (hq i hi).1).2.2 j hj
      have hs0 := hcell 0 (by omega) 0 (by omega)
      have e0 : (q 0).cells[0]? = some (.int .i64 (q 0).op) := rfl
      rw [e0, add_add, Nat.zero_mul] at hs0
      have hs : a.spot = none := by
        have := spot_none hs0
        simpa [Addr.add] using this
      obtain ⟨b, o, sp⟩ := a
      simp only at hs
      subst hs
      have hb : b < W.heap.size := by
        rw [add_plain] at hs0
        rcases Nat.lt_or_ge b W.heap.size with h | h
        · exact h
        · unfold World.cell? at hs0
          dsimp only at hs0
          rw [Array.getElem?_eq_none h] at hs0
          cases hs0
      refine ⟨b, o, rfl, Nat.zero_le _, hb, fun j u hj => ?_⟩
      have hjl : j < len * 5 := by
        have := (List.getElem?_eq_some_iff.1 hj).1
        rw [miCells_length, List.length_map, List.length_range] at this
        exact this
      have h5 := miCells_at _ (j / 5) _ (hat (j / 5) (by omega)) (j % 5) (by omega)
      have e : j / 5 * 5 + j % 5 = j := by omega
      rw [e, hj] at h5
      have := hcell (j / 5) (by omega) (j % 5) (by omega)
      rw [← h5, add_add, e, add_plain] at this
      exact this
    · obtain ⟨i, hi, rfl⟩ := List.mem_map.1 hx'
      exact (hq i (List.mem_range.1 hi)).2.1
    · have e := congrArg Prod.fst hxe
      have := hk _ (hwt _ (by rw [e]; unfold DataW.weights; rw [Tryd.underlying26]; exact List.mem_cons_self ..))
      rw [bInst, List.length_map, List.length_range] at this
      exact Nat.le_trans (Nat.mul_le_mul_right _ (Nat.le_add_right _ _)) this
    · obtain ⟨i, hi, rfl⟩ := List.mem_map.1 hx'
      have hi' := List.mem_range.1 hi
      refine (hq i hi').2.2 k fun z hz => hk z (hwt z ?_)
      have e := congrArg Prod.fst hxe
      rw [e]
      unfold DataW.weights
      rw [Tryd.underlying26]
      refine List.mem_cons_of_mem _ (List.mem_append.2 (.inl (weights_mem_all (d := D i) ?_ hz)))
      exact List.mem_map.2 ⟨i, hi, rfl⟩

set_option maxRecDepth 100000 in
theorem open_byC {H : Type} {enc : TypeId × Value → H} {W : World} {fuel : Nat} {v : Value} {x : DataW H × List MemPlace} (hm : DataW.trod enc Tryd.prog W 0 (fun _ => true) true fuel 29 [v] = some x) :
    ∃ (T : Option Addr) (tn tc : Nat) (s : ByteArray), v = .slice T tn tc ∧ Rd W 0 W.heap.size T (byteVals s.data.toList) ∧ s.size = tn ∧ (T = none → tn = 0) ∧ tn ≤ maxLen := by
  rcases open_slice Tryd.underlying29 hm with ⟨e0, _⟩ | ⟨a, len, cap, m, n', D, Pl, e0, _, hl, hmx, hme, _, hx⟩
  · simp only [List.cons.injEq, and_true] at e0
    subst e0
    exact ⟨none, 0, 0, ByteArray.empty, rfl, Rd.nil, rfl, fun _ => rfl, Nat.zero_le _⟩
  · simp only [List.cons.injEq, and_true] at e0
    subst e0
    simp only [if_true] at hme
    subst hme
    rw [cU] at hx
    have each : ∀ i, i < len → ∃ y : Nat, y < 256 ∧ W.cell? ((a.add (i * 1)).add 0) = some (.int .u8 (y : Int)) := fun i hi => by
      obtain ⟨cs', g1, g2⟩ := hx i (by omega)
      obtain ⟨u, rfl, _, wf⟩ := DataW.trod_int Tryd.underlying5 g2
      have hb : 0 ≤ u ∧ u ≤ 255 := by simpa [Lit.wf, IntKind.min, IntKind.max, IntKind.signed, IntKind.bits] using wf
      have h1 := (World.cells?_some g1).2.2 0 (by omega)
      refine ⟨u.toNat, by omega, h1.trans ?_⟩
      simp only [List.getElem?_cons_zero]
      congr 2
      omega
    obtain ⟨q, hq⟩ := choose_lt each
    refine ⟨some a, len, _, ⟨((List.range len).map fun i => UInt8.ofNat (q i)).toArray⟩, rfl, fun hp => ?_, by simp [ByteArray.size], (fun h => by cases h), by omega⟩
    have hpl : 0 < len := by simpa [byteVals] using hp
    have hs0 := (hq 0 hpl).2
    rw [add_add, Nat.zero_mul] at hs0
    have hs : a.spot = none := by
      have := spot_none hs0
      simpa [Addr.add] using this
    obtain ⟨b, o, sp⟩ := a
    simp only at hs
    subst hs
    have hb : b < W.heap.size := by
      rw [add_plain] at hs0
      rcases Nat.lt_or_ge b W.heap.size with h | h
      · exact h
      · unfold World.cell? at hs0
        dsimp only at hs0
        rw [Array.getElem?_eq_none h] at hs0
        cases hs0
    refine ⟨b, o, rfl, Nat.zero_le _, hb, fun j u hj => ?_⟩
    have hjl : j < len := by
      have := (List.getElem?_eq_some_iff.1 hj).1
      simpa [byteVals] using this
    have h2 := (hq j hjl).2
    rw [add_add, Nat.mul_one, Nat.add_zero, add_plain] at h2
    rw [h2, ← hj]
    simp [byteVals, hjl]
    have := (hq j hjl).1
    omega
set_option maxRecDepth 100000 in
theorem open_ask {H : Type} {enc : TypeId × Value → H} {W : World} {base : Nat} {v : Value} {d : DataW H} {p : List MemPlace} (hv : Value.okWide Tryd.prog W .any base 31 v) (h : DataW.Trod enc Tryd.prog W 0 (fun _ => true) true 31 v d p) :
    ∃ (A : Option Addr) (n c : Nat) (st cp : Int) (L : List MI) (T : Option Addr) (tn tc : Nat) (s : ByteArray) (frm : Int) (anch lng : Bool), v = .agg #[.slice A n c, .int .i64 st, .int .i64 cp, .slice T tn tc, .int .i64 frm, .bool anch, .bool lng] ∧
      PgIn W A n c L ∧ (∀ k, (∀ q ∈ d.weights Tryd.prog 31, q ≤ k) → n * 56 ≤ k ∧ ∀ x ∈ L, x.n * 8 ≤ k) ∧ Rd W 0 W.heap.size T (byteVals s.data.toList) ∧ s.size = tn ∧ (T = none → tn = 0) ∧ tn ≤ maxLen ∧ frm ≤ 9223372036854775807 := by
  obtain ⟨cs, rfl, hsz⟩ := okWide_struct Tryd.underlying31 hv
  obtain ⟨fuel, hm⟩ := h
  obtain ⟨xs, n, _, hxe, hl, hxl, hf⟩ := DataW.trod_struct Tryd.underlying31 hm
  rw [cAsk] at hl
  obtain ⟨c0, c1, c2, c3, c4, c5, c6, hcs⟩ := list7 hl
  obtain ⟨y0, y1, y2, y3, y4, rfl⟩ := list5 (show xs.length = 5 from hxl)
  rw [hcs] at hf
  have h0 : DataW.trod enc Tryd.prog W 0 (fun _ => true) true n 28 [c0, c1, c2] = some y0 := by have := hf 0 _ rfl; simpa [cPr] using this
  have h1 : DataW.trod enc Tryd.prog W 0 (fun _ => true) true n 29 [c3] = some y1 := by have := hf 1 _ rfl; simpa [cBy] using this
  have h2 : DataW.trod enc Tryd.prog W 0 (fun _ => true) true n 3 [c4] = some y2 := by have := hf 2 _ rfl; simpa [cInt] using this
  have h3 : DataW.trod enc Tryd.prog W 0 (fun _ => true) true n 4 [c5] = some y3 := by have := hf 3 _ rfl; simpa [cBo] using this
  have h4 : DataW.trod enc Tryd.prog W 0 (fun _ => true) true n 4 [c6] = some y4 := by have := hf 4 _ rfl; simpa [cBo] using this
  obtain ⟨A, nn, c, st, cp, L, e0, hpg, hw⟩ := open_pgC h0
  obtain ⟨T, tn, tc, s, e1, hr, hsz2, hnil, hle⟩ := open_byC h1
  obtain ⟨frm, e2, _, wf⟩ := DataW.trod_int Tryd.underlying3 h2
  have hfr : frm ≤ 9223372036854775807 := by
    have hb : -9223372036854775808 ≤ frm ∧ frm ≤ 9223372036854775807 := by simpa [Lit.wf, IntKind.min, IntKind.max, IntKind.signed, IntKind.bits] using wf
    exact hb.2
  obtain ⟨b1, e3, _⟩ := DataW.trod_bool Tryd.underlying4 h3
  obtain ⟨b2, e4, _⟩ := DataW.trod_bool Tryd.underlying4 h4
  simp only [List.cons.injEq, and_true] at e0 e2 e3 e4
  obtain ⟨rfl, rfl, rfl⟩ := e0
  subst e1; subst e2; subst e3; subst e4
  refine ⟨A, nn, c, st, cp, L, T, tn, tc, s, frm, b1, b2, ?_, hpg, fun k hk => hw k fun q hq => hk q ?_, hr, hsz2, hnil, hle, hfr⟩
  · congr 1
    apply Array.ext'
    simpa [Value.cells] using hcs
  · have e : d = DataW.agg ([y0, y1, y2, y3, y4].map (·.1)) := congrArg Prod.fst hxe
    rw [e]
    unfold DataW.weights
    rw [Tryd.underlying31]
    exact DataW.weights_mem_each (j := 0) rfl rfl q hq
end Go.Proofs.YtbhcgjahlfpjoaaDoor
