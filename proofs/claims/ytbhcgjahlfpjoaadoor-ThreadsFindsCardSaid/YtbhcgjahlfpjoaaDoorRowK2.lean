/- What all rows of this seat share: how a list of ranges opens. -/
import Derived.Test.YtbhcgjahlfpjoaaDoorRows
import Derived.Test.YtbhcgjahlfpjoaaDoorSetW1
import Derived.ProofKit
import Derived.OpenShut
import Derived.ShutString
import Derived.ChangeOld
import Derived.Below
import Derived.SizedLaws
import Derived.Handed
import Derived.Deep.SlicePairs
namespace Go.Proofs.YtbhcgjahlfpjoaaDoor
open Go.ChangeShapes Go.WideShapes Go.ChangeAt Go.RowKit Go.Deep

theorem own : ownKnob Tryd.prog.godebug = none := by kernel_rfl
theorem laidOut : laidOutB Tryd.prog = true := by kernel_rfl
theorem cRg : Tryd.prog.cellsOf 66 = 2 := by kernel_rfl
theorem cI32 : Tryd.prog.cellsOf 21 = 1 := by kernel_rfl

theorem spot_none {w : World} {a : Addr} {v : Value} (h : w.cell? a = some v) : a.spot = none := by
  unfold World.cell? at h
  split at h
  · by_cases hs : a.spot.isSome
    · rw [if_pos hs] at h; cases h
    · simpa using hs
  · cases h
theorem add_zero' (a : Addr) : a.add (0 * 2) = a := by simp [Addr.add]

set_option maxRecDepth 100000 in
theorem open_rgAt {H : Type} {enc : TypeId × Value → H} {W : World} {base : Nat} {t e : TypeId} {f0 f1 : Field} {v : Value} {d : DataW H} {p : List MemPlace} (ht : Tryd.prog.underlying t = some (.slice e)) (he : Tryd.prog.underlying e = some (.struct #[f0, f1])) (ce : Tryd.prog.cellsOf e = 2) (o0 : f0.offset = 0) (o1 : f1.offset = 1)
    (i0 : Tryd.prog.underlying f0.type = some (.int .i32)) (i1 : Tryd.prog.underlying f1.type = some (.int .i32)) (c0 : Tryd.prog.cellsOf f0.type = 1) (c1 : Tryd.prog.cellsOf f1.type = 1) (hv : Value.okWide Tryd.prog W .any base t v) (h : DataW.Trod enc Tryd.prog W 0 (fun _ => true) true t v d p) :
    ∃ (A : Option Addr) (n c : Nat) (l : List Rg), v = .slice A n c ∧ RgIn W A n c l := by
  obtain ⟨a1, len1, cap1, rfl⟩ := okWide_slice ht hv
  obtain ⟨m, hm⟩ := h
  rcases open_slice_pairs ht he ce o0 o1 c0 c1 hm with ⟨h1, _⟩ | ⟨a, len, cap, m', n', V0, V1, D0, D1, P0, P1, h1, _, hl, hmx, hme, _, hx⟩
  · simp [Value.cells] at h1
    obtain ⟨rfl, rfl, rfl⟩ := h1
    exact ⟨none, 0, 0, [], rfl, ⟨Rd.nil, rfl, Nat.le_refl _, Nat.zero_le _, fun _ => rfl, fun _ h => by cases h⟩⟩
  · simp [Value.cells] at h1
    obtain ⟨rfl, rfl, rfl⟩ := h1
    simp only [if_true] at hme
    subst hme
    have hint : ∀ i, i < len1 → ∃ p : Rg, V0 i = .int .i32 p.1 ∧ V1 i = .int .i32 p.2 ∧ (-2147483648 ≤ p.1 ∧ p.1 ≤ 2147483647) ∧ (-2147483648 ≤ p.2 ∧ p.2 ≤ 2147483647) := by
      intro i hi
      obtain ⟨_, _, t0, t1⟩ := hx i (by omega)
      obtain ⟨x0, e0, _, w0⟩ := DataW.trod_int i0 t0
      obtain ⟨x1, e1, _, w1⟩ := DataW.trod_int i1 t1
      injection e0 with e0
      injection e1 with e1
      refine ⟨(x0, x1), e0, e1, ?_, ?_⟩
      · simpa [Lit.wf, IntKind.min, IntKind.max, IntKind.signed, IntKind.bits] using w0
      · simpa [Lit.wf, IntKind.min, IntKind.max, IntKind.signed, IntKind.bits] using w1
    obtain ⟨q, hq⟩ := choose_lt hint
    have hat : ∀ i, i < len1 → ((List.range len1).map q)[i]? = some (q i) := fun i hi => by simp [hi]
    refine ⟨some a, len1, m', (List.range len1).map q, rfl, ⟨fun hp => ?_, by simp, hl, hmx, (fun h => by cases h), fun p hp => ?_⟩⟩
    · rw [rgCells_length, List.length_map, List.length_range] at hp
      have hs0 := (hx 0 (by omega)).1
      rw [add_zero'] at hs0
      have hs := spot_none hs0
      obtain ⟨b, o, sp⟩ := a
      simp only at hs
      subst hs
      refine ⟨b, o, rfl, Nat.zero_le _, ?_, fun j u hj => ?_⟩
      · have := (hx 0 (by omega)).1
        rw [add_plain] at this
        rcases Nat.lt_or_ge b W.heap.size with h | h
        · exact h
        · unfold World.cell? at this
          dsimp only at this
          rw [Array.getElem?_eq_none h] at this
          cases this
      · have hjl : j < len1 * 2 := by
          have := (List.getElem?_eq_some_iff.1 hj).1
          rw [rgCells_length, List.length_map, List.length_range] at this
          exact this
        obtain ⟨g0, g1⟩ := rgCells_at _ (j / 2) _ (hat (j / 2) (by omega))
        obtain ⟨k0, k1, _⟩ := hx (j / 2) (by omega)
        obtain ⟨v0, v1, _⟩ := hq (j / 2) (by omega)
        rw [add_plain] at k0 k1
        rcases Nat.mod_two_eq_zero_or_one j with h | h
        · have e : j = j / 2 * 2 := by omega
          rw [← e] at g0 k0
          rw [g0] at hj
          injection hj with hj
          rw [k0, v0, hj]
        · have e : j = j / 2 * 2 + 1 := by omega
          rw [← e] at g1 k1
          rw [g1] at hj
          injection hj with hj
          rw [k1, v1, hj]
    · obtain ⟨i, hi, rfl⟩ := List.mem_map.1 hp
      exact (hq i (List.mem_range.1 hi)).2.2
set_option maxRecDepth 100000 in
theorem open_rg {H : Type} {enc : TypeId × Value → H} {W : World} {base : Nat} {v : Value} {d : DataW H} {p : List MemPlace} (hv : Value.okWide Tryd.prog W .any base 61 v) (h : DataW.Trod enc Tryd.prog W 0 (fun _ => true) true 61 v d p) :
    ∃ (A : Option Addr) (n c : Nat) (l : List Rg), v = .slice A n c ∧ RgIn W A n c l :=
  open_rgAt Tryd.underlying61 Tryd.underlying66 cRg rfl rfl Tryd.underlying21 Tryd.underlying21 cI32 cI32 hv h
theorem rg_sizeAt {H : Type} {enc : TypeId × Value → H} {W : World} {t e : TypeId} {f0 f1 : Field} {A : Option Addr} {n c : Nat} {d : DataW H} {p : List MemPlace} (ht : Tryd.prog.underlying t = some (.slice e)) (he : Tryd.prog.underlying e = some (.struct #[f0, f1])) (ce : Tryd.prog.cellsOf e = 2) (o0 : f0.offset = 0) (o1 : f1.offset = 1)
    (c0 : Tryd.prog.cellsOf f0.type = 1) (c1 : Tryd.prog.cellsOf f1.type = 1) (h : DataW.Trod enc Tryd.prog W 0 (fun _ => true) true t (.slice A n c) d p) (hb : Tryd.prog.bytesOf e = 8)
    (hr : ∀ elems spare, d = .slice elems spare → (elems.length + spare.length) * Tryd.prog.bytesOf e ≤ reachBytes) : n * 8 ≤ 140737488351232 := by
  obtain ⟨m, hm⟩ := h
  rcases open_slice_pairs ht he ce o0 o1 c0 c1 hm with ⟨h1, _⟩ | ⟨a, len, cap, m', n', V0, V1, D0, D1, P0, P1, h1, _, hl, hmx, hme, hd, hx⟩
  · simp [Value.cells] at h1
    obtain ⟨_, rfl, _⟩ := h1
    omega
  · simp [Value.cells] at h1
    obtain ⟨_, rfl, _⟩ := h1
    have := hr _ _ (congrArg Prod.fst hd)
    rw [hb, List.length_map, List.length_range] at this
    have e1 : reachBytes = 140737488351232 := by kernel_rfl
    rw [e1] at this
    omega
theorem bRg : Tryd.prog.bytesOf 66 = 8 := by kernel_rfl
set_option maxRecDepth 100000 in
theorem rg_size {H : Type} {enc : TypeId × Value → H} {W : World} {A : Option Addr} {n c : Nat} {d : DataW H} {p : List MemPlace} (h : DataW.Trod enc Tryd.prog W 0 (fun _ => true) true 61 (.slice A n c) d p)
    (hr : ∀ elems spare, d = .slice elems spare → (elems.length + spare.length) * Tryd.prog.bytesOf 66 ≤ reachBytes) : n * 8 ≤ 140737488351232 :=
  rg_sizeAt Tryd.underlying61 Tryd.underlying66 cRg rfl rfl cI32 cI32 h bRg hr
end Go.Proofs.YtbhcgjahlfpjoaaDoor
