/- How a list of machine's questions opens; what the listed tables give. -/
import Derived.Test.YtbhcgjahlfpjoaaDoorRowD
import Derived.Test.YtbhcgjahlfpjoaaDoorLf1
namespace Go.Proofs.YtbhcgjahlfpjoaaDoor
open Go.ChangeShapes Go.WideShapes Go.ChangeAt Go.RowKit Go.Deep Go.Lib

theorem accept_eq : Rows.laid_unicode_utf8_acceptRanges = acceptData := by kernel_rfl
theorem first_eq : Rows.laid_unicode_utf8_first = firstData := Pinned.utf8First_eq

theorem nFirst : Tryd.prog.globalNamed "unicode/utf8.first" = some 0 := by kernel_rfl
theorem nAccept : Tryd.prog.globalNamed "unicode/utf8.acceptRanges" = some 1 := by kernel_rfl
theorem tFirst : (Tryd.prog.globals[0]?).map (·.type) = some 135 := by kernel_rfl
theorem tAccept : (Tryd.prog.globals[1]?).map (·.type) = some 138 := by kernel_rfl
theorem cU8 : Tryd.prog.cellsOf 5 = 1 := by kernel_rfl
theorem cFirst : Tryd.prog.cellsOf 135 = 256 := by kernel_rfl
theorem cRange : Tryd.prog.cellsOf 137 = 2 := by kernel_rfl

theorem tabs_of_reads {w : World} (h3 : VarReads Tryd.prog w "unicode/utf8.first" firstData) (h4 : VarReads Tryd.prog w "unicode/utf8.acceptRanges" acceptData) : Lib.Utf8Tabs 0 1 w := by
  refine ⟨fun c hc => ?_, fun i hi => ?_⟩
  · obtain ⟨g, t, cs, fuel, p, hg, hty, hvar, hd⟩ := h3
    obtain rfl := Option.some.inj (nFirst.symm.trans hg)
    obtain rfl := Option.some.inj (tFirst.symm.trans hty)
    have hcs := cells_of_tab Tryd.underlying135 Tryd.underlying5 cU8 cFirst hd
    have := World.var?_cell hg hvar c
    rw [this, ← Array.getElem?_toList, hcs]
    simp [firstTab, hc]
  · obtain ⟨g, t, cs, fuel, p, hg, hty, hvar, hd⟩ := h4
    obtain rfl := Option.some.inj (nAccept.symm.trans hg)
    obtain rfl := Option.some.inj (tAccept.symm.trans hty)
    obtain ⟨fuel', d, q, hdi, he⟩ := array_elem Tryd.underlying138 hd i hi
    simp only [List.getElem?_map, List.getElem?_range hi, Option.map_some, Option.some.injEq] at hdi
    subst hdi
    rw [cRange] at he
    have hcs := ints_of_struct Tryd.underlying137 (fun j f hj => by
      match j, hj with
      | 0, hj => simp at hj; subst hj; exact ⟨Tryd.underlying5, rfl, cU8⟩
      | 1, hj => simp at hj; subst hj; exact ⟨Tryd.underlying5, rfl, cU8⟩
      | j + 2, hj => simp at hj) (by rw [cRange]; rfl) he
    have e0 := congrArg (·[0]?) hcs
    have e1 := congrArg (·[1]?) hcs
    simp only [List.getElem?_take, List.getElem?_drop] at e0 e1
    constructor
    · rw [World.var?_cell hg hvar (2 * i), ← Array.getElem?_toList]
      simpa [Nat.mul_comm] using e0
    · rw [World.var?_cell hg hvar (2 * i + 1), ← Array.getElem?_toList]
      simpa [Nat.mul_comm] using e1

theorem tabs_of_laid {w : World} (h : laidMetH Tryd.prog laidU8 w) : Lib.Utf8Tabs 0 1 w := by
  rw [MakeChecks.laidMetH_plain _ _ _ (by kernel_rfl)] at h
  exact tabs_of_reads (first_eq ▸ Lib.laidMet.reads h (.tail _ (.head _))) (accept_eq ▸ Lib.laidMet.reads h (.head _))

set_option maxRecDepth 100000 in
theorem open_byL {H : Type} {enc : TypeId × Value → H} {W : World} {fuel : Nat} {v : Value} {x : DataW H × List MemPlace} (hm : DataW.trod enc Tryd.prog W 0 (fun _ => true) true fuel 29 [v] = some x) :
    ∃ (T : Option Addr) (tn tc : Nat) (s : ByteArray), v = .slice T tn tc ∧ Rd W 0 W.heap.size T (byteVals s.data.toList) ∧ s.size = tn ∧ (T = none → tn = 0) ∧ tn ≤ tc ∧ tc ≤ maxLen := by
  rcases open_slice Tryd.underlying29 hm with ⟨e0, _⟩ | ⟨a, len, cap, m, n', D, Pl, e0, _, hl, hmx, hme, _, hx⟩
  · simp only [List.cons.injEq, and_true] at e0
    subst e0
    exact ⟨none, 0, 0, ByteArray.empty, rfl, Rd.nil, rfl, fun _ => rfl, Nat.le_refl _, Nat.zero_le _⟩
  · simp only [List.cons.injEq, and_true] at e0
    subst e0
    simp only [if_true] at hme
    subst hme
    rw [cU] at hx
    have each : ∀ i, i < len → ∃ y : Nat, y < 256 ∧ W.cell? ((a.add (i * 1)).add 0) = some (.int .u8 (y : Int)) := fun i hi => by
      obtain ⟨cs', g1, g2⟩ := hx i (by omega)
      obtain ⟨u, rfl, _, wf⟩ := DataW.trod_int Tryd.underlying5 g2
      have hb : 0 ≤ u ∧ u ≤ 255 := by simpa [Lit.wf, IntKind.min, IntKind.max, IntKind.signed, IntKind.bits] using wf
      have h1 := (World.cells?_some g1).2.2 0 (by omega)
      refine ⟨u.toNat, by omega, h1.trans ?_⟩
      simp only [List.getElem?_cons_zero]
      congr 2
      omega
    obtain ⟨q, hq⟩ := choose_lt each
    refine ⟨some a, len, _, ⟨((List.range len).map fun i => UInt8.ofNat (q i)).toArray⟩, rfl, fun hp => ?_, by simp [ByteArray.size], (fun h => by cases h), hl, hmx⟩
    have hpl : 0 < len := by simpa [byteVals] using hp
    have hs0 := (hq 0 hpl).2
    rw [add_add, Nat.zero_mul] at hs0
    have hs : a.spot = none := by
      have := spot_none hs0
      simpa [Addr.add] using this
    obtain ⟨b, o, sp⟩ := a
    simp only at hs
    subst hs
    have hb : b < W.heap.size := by
      rw [add_plain] at hs0
      rcases Nat.lt_or_ge b W.heap.size with h | h
      · exact h
      · unfold World.cell? at hs0
        dsimp only at hs0
        rw [Array.getElem?_eq_none h] at hs0
        cases hs0
    refine ⟨b, o, rfl, Nat.zero_le _, hb, fun j u hj => ?_⟩
    have hjl : j < len := by
      have := (List.getElem?_eq_some_iff.1 hj).1
      simpa [byteVals] using this
    have h2 := (hq j hjl).2
    rw [add_add, Nat.mul_one, Nat.add_zero, add_plain] at h2
    rw [h2, ← hj]
    simp [byteVals, hjl]
    have := (hq j hjl).1
    omega
instance instAV : Inhabited AV := ⟨⟨none, 0, 0, 0, 0, [], none, 0, 0, ByteArray.empty, 0, false, false⟩⟩
set_option maxRecDepth 100000 in
theorem open_askC {H : Type} {enc : TypeId × Value → H} {W : World} {fuel : Nat} {cs : List Value} {x : DataW H × List MemPlace} (hm : DataW.trod enc Tryd.prog W 0 (fun _ => true) true fuel 31 cs = some x) :
    ∃ a : AV, cs = a.cells ∧ ((∀ q ∈ x.1.weights Tryd.prog 31, q ≤ 140737488351232) → a.In W) := by
  obtain ⟨xs, n, _, hxe, hl, hxl, hf⟩ := DataW.trod_struct Tryd.underlying31 hm
  rw [cAsk] at hl
  obtain ⟨c0, c1, c2, c3, c4, c5, c6, hcs⟩ := list7 hl
  obtain ⟨y0, y1, y2, y3, y4, rfl⟩ := list5 (show xs.length = 5 from hxl)
  rw [hcs] at hf
  have h0 : DataW.trod enc Tryd.prog W 0 (fun _ => true) true n 28 [c0, c1, c2] = some y0 := by have := hf 0 _ rfl; simpa [cPr] using this
  have h1 : DataW.trod enc Tryd.prog W 0 (fun _ => true) true n 29 [c3] = some y1 := by have := hf 1 _ rfl; simpa [cBy] using this
  have h2 : DataW.trod enc Tryd.prog W 0 (fun _ => true) true n 3 [c4] = some y2 := by have := hf 2 _ rfl; simpa [cInt] using this
  have h3 : DataW.trod enc Tryd.prog W 0 (fun _ => true) true n 4 [c5] = some y3 := by have := hf 3 _ rfl; simpa [cBo] using this
  have h4 : DataW.trod enc Tryd.prog W 0 (fun _ => true) true n 4 [c6] = some y4 := by have := hf 4 _ rfl; simpa [cBo] using this
  obtain ⟨A, nn, c, st, cp, L, e0, hpg, hw⟩ := open_pgC h0
  obtain ⟨T, tn, tc, s, e1, hr, hsz2, hnil, hle, htm⟩ := open_byL h1
  obtain ⟨frm, e2, _, wf⟩ := DataW.trod_int Tryd.underlying3 h2
  have hfr : frm ≤ 9223372036854775807 := by
    have hb : -9223372036854775808 ≤ frm ∧ frm ≤ 9223372036854775807 := by simpa [Lit.wf, IntKind.min, IntKind.max, IntKind.signed, IntKind.bits] using wf
    exact hb.2
  obtain ⟨b1, e3, _⟩ := DataW.trod_bool Tryd.underlying4 h3
  obtain ⟨b2, e4, _⟩ := DataW.trod_bool Tryd.underlying4 h4
  simp only [List.cons.injEq, and_true] at e0 e2 e3 e4
  obtain ⟨rfl, rfl, rfl⟩ := e0
  subst e1; subst e2; subst e3; subst e4
  refine ⟨⟨A, nn, c, st, cp, L, T, tn, tc, s, frm, b1, b2⟩, hcs, fun hk => ?_⟩
  have hz := hw 140737488351232 fun q hq => hk q (by
    have e : x.1 = DataW.agg ([y0, y1, y2, y3, y4].map (·.1)) := congrArg Prod.fst hxe
    rw [e]
    unfold DataW.weights
    rw [Tryd.underlying31]
    exact DataW.weights_mem_each (j := 0) rfl rfl q hq)
  exact ⟨⟨hpg, fun y hy => by have := hz.2 y hy; omega, (show nn ≤ 17592186043904 by have := hz.1; omega), hr, hsz2, hnil, Nat.le_trans hle htm, hfr⟩, hle, htm⟩
set_option maxRecDepth 100000 in
theorem open_asks {H : Type} {enc : TypeId × Value → H} {W : World} {base : Nat} {v : Value} {d : DataW H} {p : List MemPlace} (hv : Value.okWide Tryd.prog W .any base 22 v) (h : DataW.Trod enc Tryd.prog W 0 (fun _ => true) true 22 v d p) :
    ∃ (Q : Option Addr) (m e : Nat) (K : List AV), v = .slice Q m e ∧ ((∀ q ∈ d.weights Tryd.prog 22, q ≤ 140737488351232) → AsksIn W Q m e K) := by
  obtain ⟨a1, len1, cap1, rfl⟩ := okWide_slice Tryd.underlying22 hv
  obtain ⟨fuel, hm⟩ := h
  rcases open_slice Tryd.underlying22 hm with ⟨e0, _⟩ | ⟨a, len, cap, m, n', D, Pl, e0, _, hl, hmx, hme, hxe, hx⟩
  · simp [Value.cells] at e0
    obtain ⟨rfl, rfl, rfl⟩ := e0
    exact ⟨none, 0, 0, [], rfl, fun _ => ⟨Rd.nil, rfl, Nat.le_refl _, Nat.zero_le _, fun _ h => by cases h⟩⟩
  · simp [Value.cells] at e0
    obtain ⟨rfl, rfl, rfl⟩ := e0
    simp only [if_true] at hme
    subst hme
    rw [cAsk] at hx
    have each : ∀ i, i < len1 → ∃ y : AV, W.cells? 0 (a.add (i * 7)) 7 = some y.cells ∧ ((∀ q ∈ (D i).weights Tryd.prog 31, q ≤ 140737488351232) → y.In W) := fun i hi => by
      obtain ⟨cs', g1, g2⟩ := hx i (by omega)
      obtain ⟨y, rfl, k1⟩ := open_askC g2
      exact ⟨y, g1, k1⟩
    obtain ⟨q, hq⟩ := choose_lt each
    have hat : ∀ i, i < len1 → ((List.range len1).map q)[i]? = some (q i) := fun i hi => by simp [hi]
    refine ⟨some a, len1, _, (List.range len1).map q, rfl, fun hk => ⟨fun hp => ?_, by simp, hl, hmx, fun x hx' => ?_⟩⟩
    · rw [avCells_length, List.length_map, List.length_range] at hp
      have hcell : ∀ i, i < len1 → ∀ j, j < 7 → W.cell? ((a.add (i * 7)).add j) = (q i).cells[j]? := fun i hi j hj => (World.cells?_some (hq i hi).1).2.2 j hj
      have hs0 := hcell 0 (by omega) 0 (by omega)
      have e0 : (q 0).cells[0]? = some (.slice (q 0).A (q 0).n (q 0).c) := rfl
      rw [e0, add_add, Nat.zero_mul] at hs0
      have hs : a.spot = none := by
        have := spot_none hs0
        simpa [Addr.add] using this
      obtain ⟨b, o, sp⟩ := a
      simp only at hs
      subst hs
      have hb : b < W.heap.size := by
        rw [add_plain] at hs0
        rcases Nat.lt_or_ge b W.heap.size with h | h
        · exact h
        · unfold World.cell? at hs0
          dsimp only at hs0
          rw [Array.getElem?_eq_none h] at hs0
          cases hs0
      refine ⟨b, o, rfl, Nat.zero_le _, hb, fun j u hj => ?_⟩
      have hjl : j < len1 * 7 := by
        have := (List.getElem?_eq_some_iff.1 hj).1
        rw [avCells_length, List.length_map, List.length_range] at this
        exact this
      have h5 := avCells_at _ (j / 7) _ (hat (j / 7) (by omega)) (j % 7) (by omega)
      have e : j / 7 * 7 + j % 7 = j := by omega
      rw [e, hj] at h5
      have := hcell (j / 7) (by omega) (j % 7) (by omega)
      rw [← h5, add_add, e, add_plain] at this
      exact this
    · obtain ⟨i, hi, rfl⟩ := List.mem_map.1 hx'
      have hi' := List.mem_range.1 hi
      refine (hq i hi').2 fun z hz => hk z ?_
      have e := congrArg Prod.fst hxe
      rw [show d = _ from e]
      unfold DataW.weights
      rw [Tryd.underlying22]
      refine List.mem_cons_of_mem _ (List.mem_append.2 (.inl (weights_mem_all (d := D i) ?_ hz)))
      exact List.mem_map.2 ⟨i, hi, rfl⟩
end Go.Proofs.YtbhcgjahlfpjoaaDoor
