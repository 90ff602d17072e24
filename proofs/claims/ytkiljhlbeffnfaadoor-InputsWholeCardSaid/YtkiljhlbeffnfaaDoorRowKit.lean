/- What all rows of this seat share: how the arguments open, what the listed tables give. -/
import Derived.Test.YtkiljhlbeffnfaaDoorRows
import Derived.Test.YtkiljhlbeffnfaaDoorLawPl
import Derived.WalkKit
import Derived.ProofKit
import Derived.OpenShut
import Derived.ShutString
import Derived.ChangeOld
import Derived.Below
import Derived.PinnedBridge
import Derived.Lib.LaidU8
import Derived.Lay
import Derived.LaidOnce
import Derived.SizedLaws
namespace Go.Proofs.YtkiljhlbeffnfaaDoor
open Go.ChangeShapes Go.WideShapes Go.ChangeAt Go.RowKit Go.Lib
open Go.ChangeMaps (open_string shut_string)

theorem own : ownKnob Tryd.prog.godebug = none := by kernel_rfl
theorem laidOut : laidOutB Tryd.prog = true := by kernel_rfl

def laidU8 : List (String × DataW Unit) := [("unicode/utf8.acceptRanges", Rows.laid_unicode_utf8_acceptRanges), ("unicode/utf8.first", Rows.laid_unicode_utf8_first)]
theorem accept_eq : Rows.laid_unicode_utf8_acceptRanges = acceptData := by kernel_rfl
theorem first_eq : Rows.laid_unicode_utf8_first = firstData := Pinned.utf8First_eq

theorem nFirst : Tryd.prog.globalNamed "unicode/utf8.first" = some 0 := by kernel_rfl
theorem nAccept : Tryd.prog.globalNamed "unicode/utf8.acceptRanges" = some 1 := by kernel_rfl
theorem tFirst : (Tryd.prog.globals[0]?).map (·.type) = some 69 := by kernel_rfl
theorem tAccept : (Tryd.prog.globals[1]?).map (·.type) = some 72 := by kernel_rfl
theorem cU8 : Tryd.prog.cellsOf 5 = 1 := by kernel_rfl
theorem cFirst : Tryd.prog.cellsOf 69 = 256 := by kernel_rfl
theorem cRange : Tryd.prog.cellsOf 71 = 2 := by kernel_rfl

theorem tabs_of_reads {w : World} (h3 : VarReads Tryd.prog w "unicode/utf8.first" firstData) (h4 : VarReads Tryd.prog w "unicode/utf8.acceptRanges" acceptData) : Lib.Utf8Tabs 0 1 w := by
  refine ⟨fun c hc => ?_, fun i hi => ?_⟩
  · obtain ⟨g, t, cs, fuel, p, hg, hty, hvar, hd⟩ := h3
    obtain rfl := Option.some.inj (nFirst.symm.trans hg)
    obtain rfl := Option.some.inj (tFirst.symm.trans hty)
    have hcs := cells_of_tab Tryd.underlying69 Tryd.underlying5 cU8 cFirst hd
    have := World.var?_cell hg hvar c
    rw [this, ← Array.getElem?_toList, hcs]
    simp [firstTab, hc]
  · obtain ⟨g, t, cs, fuel, p, hg, hty, hvar, hd⟩ := h4
    obtain rfl := Option.some.inj (nAccept.symm.trans hg)
    obtain rfl := Option.some.inj (tAccept.symm.trans hty)
    obtain ⟨fuel', d, q, hdi, he⟩ := array_elem Tryd.underlying72 hd i hi
    simp only [List.getElem?_map, List.getElem?_range hi, Option.map_some, Option.some.injEq] at hdi
    subst hdi
    rw [cRange] at he
    have hcs := ints_of_struct Tryd.underlying71 (fun j f hj => by
      match j, hj with
      | 0, hj => simp at hj; subst hj; exact ⟨Tryd.underlying5, rfl, cU8⟩
      | 1, hj => simp at hj; subst hj; exact ⟨Tryd.underlying5, rfl, cU8⟩
      | j + 2, hj => simp at hj) (by rw [cRange]; rfl) he
    have e0 := congrArg (·[0]?) hcs
    have e1 := congrArg (·[1]?) hcs
    simp only [List.getElem?_take, List.getElem?_drop] at e0 e1
    constructor
    · rw [World.var?_cell hg hvar (2 * i), ← Array.getElem?_toList]
      simpa [Nat.mul_comm] using e0
    · rw [World.var?_cell hg hvar (2 * i + 1), ← Array.getElem?_toList]
      simpa [Nat.mul_comm] using e1

theorem tabs_of_laid {w : World} (h : laidMetH Tryd.prog laidU8 w) : Lib.Utf8Tabs 0 1 w := by
  rw [MakeChecks.laidMetH_plain _ _ _ (by kernel_rfl)] at h
  exact tabs_of_reads (first_eq ▸ Lib.laidMet.reads h (.tail _ (.head _))) (accept_eq ▸ Lib.laidMet.reads h (.head _))

/-- A slice of bytes that came in. -/
def IsRow (k : IntKind) (w : World) (a : Option Addr) (len cap : Nat) (zs : List Int) : Prop :=
  (a = none ∧ len = 0 ∧ cap = 0 ∧ zs = []) ∨
  ∃ x, a = some x ∧ len ≤ cap ∧ cap ≤ maxLen ∧ zs.length = cap ∧ (∀ i, i < zs.length → w.cell? (x.add i) = some (.int k (zs.getD i 0))) ∧ ∀ n ∈ zs, (Lit.int k n).wf = true

theorem spot_none {w : World} {a : Addr} {v : Value} (h : w.cell? a = some v) : a.spot = none := by
  unfold World.cell? at h
  split at h
  · by_cases hs : a.spot.isSome
    · rw [if_pos hs] at h; cases h
    · simpa using hs
  · cases h

def bytesOfInts (zs : List Int) : ByteArray := ⟨(zs.map fun z => UInt8.ofNat z.toNat).toArray⟩
theorem bytesIn_of_row {w : World} {a : Option Addr} {len cap : Nat} {zs : List Int} (h : IsRow .u8 w a len cap zs) (hr : cap ≤ 140737488351232) : BytesIn w a len cap (bytesOfInts (zs.take len)) := by
  rcases h with ⟨rfl, rfl, rfl, rfl⟩ | ⟨x, rfl, h1, h2, h3, h4, h5⟩
  · exact ⟨fun h => by simp [bytesOfInts, byteVals] at h, rfl, Nat.le_refl _, Nat.zero_le _, fun _ => rfl, by omega⟩
  · have hv : byteVals (bytesOfInts (zs.take len)).data.toList = (zs.take len).map (Value.int .u8) := by
      simp only [bytesOfInts, byteVals, List.map_map]
      apply List.map_congr_left
      intro z hz
      have hw := h5 z (List.mem_of_mem_take hz)
      have hb : 0 ≤ z ∧ z ≤ 255 := by simpa [Lit.wf, IntKind.min, IntKind.max, IntKind.signed, IntKind.bits] using hw
      simp only [Function.comp_apply, Value.int.injEq, true_and]
      have : z.toNat % 256 = z.toNat := Nat.mod_eq_of_lt (by omega)
      simp [UInt8.toNat_ofNat', this]
      omega
    refine ⟨?_, by simp [bytesOfInts, ByteArray.size, h3]; omega, h1, h2, (fun h => by cases h), by omega⟩
    rw [hv]
    intro hp
    have hl : 0 < zs.length := by simp at hp; omega
    have h0 := h4 0 hl
    have hs : x.spot = none := by
      have := spot_none h0
      simpa [Addr.add] using this
    obtain ⟨b, off, sp⟩ := x
    simp at hs
    subst hs
    refine ⟨b, off, rfl, Nat.zero_le _, ?_, fun j u hu => ?_⟩
    · have := World.block_lt_of_cell? w _ h0
      simpa [Addr.add] using this
    · have hj : j < zs.length := by
        have := (List.getElem?_eq_some_iff.1 hu).1
        simp at this; omega
      have hjl : j < len := by
        have := (List.getElem?_eq_some_iff.1 hu).1
        simp at this; omega
      have h6 := h4 j hj
      have h7 : u = .int .u8 (zs.getD j 0) := by
        simp [List.getElem?_take, hjl, List.getElem?_eq_getElem hj] at hu
        simp [List.getD, List.getElem?_eq_getElem hj, hu]
      rw [h7, ← h6]
      rcases Nat.eq_zero_or_pos j with e | e
      · subst e; simp [Addr.add]
      · simp [Addr.add, Nat.pos_iff_ne_zero.1 e]

theorem open_row {H : Type} {enc : TypeId × Value → H} {W : World} {base : Nat} {t e : TypeId} {k : IntKind} {v : Value} {d : DataW H} {p : List MemPlace} {bytes : Nat} (ht : Tryd.prog.underlying t = some (.slice e)) (he : Tryd.prog.underlying e = some (.int k)) (hc : Tryd.prog.cellsOf e = 1)
    (hv : Value.okWide Tryd.prog W .any base t v) (h : DataW.Trod enc Tryd.prog W 0 (fun _ => true) true t v d p) (hb : Tryd.prog.bytesOf e = bytes)
    (hreach : ∀ elems spare, d = .slice elems spare → (elems.length + spare.length) * Tryd.prog.bytesOf e ≤ reachBytes) :
    ∃ a len cap zs, v = .slice a len cap ∧ IsRow k W a len cap zs ∧ cap * bytes ≤ 140737488351232 := by
  obtain ⟨a1, len1, cap1, rfl⟩ := okWide_slice ht hv
  obtain ⟨fuel, hf⟩ := h
  rcases open_ints ht he hc hf with ⟨hcs, _⟩ | ⟨x, l, c, zs, hcs, _, hl, hm, hz, hx, hcell, hwz⟩
  · simp [Value.cells] at hcs
    obtain ⟨rfl, rfl, rfl⟩ := hcs
    exact ⟨_, _, _, [], rfl, .inl ⟨rfl, rfl, rfl, rfl⟩, by omega⟩
  · simp [Value.cells] at hcs
    obtain ⟨rfl, rfl, rfl⟩ := hcs
    simp only [if_true] at hz
    refine ⟨_, _, _, zs, rfl, .inr ⟨_, rfl, hl, hm, hz, hcell, hwz⟩, ?_⟩
    have h1 := hreach _ _ (congrArg Prod.fst hx)
    rw [hb] at h1
    have h2 : (lits (H := H) k (zs.take len1)).length + (lits (H := H) k (zs.drop len1)).length = cap1 := by
      simp [lits, hz]; omega
    rw [h2] at h1
    exact h1
end Go.Proofs.YtkiljhlbeffnfaaDoor
