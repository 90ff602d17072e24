/- How a list of runes opens. -/
import Derived.Test.YtbhcgjahlfpjoaaRowP
import Derived.Test.YtbhcgjahlfpjoaaRs1
namespace Go.Proofs.Ytbhcgjahlfpjoaa
open Go.ChangeShapes Go.WideShapes Go.ChangeAt Go.RowKit Go.Deep

theorem cI32n : Try.prog.cellsOf 21 = 1 := by kernel_rfl
theorem bI32n : Try.prog.bytesOf 21 = 4 := by kernel_rfl
set_option maxRecDepth 100000 in
theorem open_rn {H : Type} {enc : TypeId × Value → H} {W : World} {base : Nat} {v : Value} {d : DataW H} {p : List MemPlace} (hv : Value.okWide Try.prog W .any base 52 v) (h : DataW.Trod enc Try.prog W 0 (fun _ => true) true 52 v d p) :
    ∃ (A : Option Addr) (n c : Nat) (l : List Int), v = .slice A n c ∧ RnIn W A n c l ∧ (∀ k, (∀ q ∈ d.weights Try.prog 52, q ≤ k) → n * 4 ≤ k) := by
  obtain ⟨a1, len1, cap1, rfl⟩ := okWide_slice Try.underlying52 hv
  obtain ⟨m, hm⟩ := h
  rcases open_slice1 Try.underlying52 cI32n hm with ⟨h1, _⟩ | ⟨a, len, cap, m', n', V, D, Pl, h1, _, hl, hmx, hme, hxe, hx⟩
  · simp [Value.cells] at h1
    obtain ⟨rfl, rfl, rfl⟩ := h1
    exact ⟨none, 0, 0, [], rfl, ⟨Rd.nil, rfl, Nat.le_refl _, Nat.zero_le _, fun _ => rfl⟩, fun k _ => by omega⟩
  · simp [Value.cells] at h1
    obtain ⟨rfl, rfl, rfl⟩ := h1
    simp only [if_true] at hme
    subst hme
    have hint : ∀ i, i < len1 → ∃ z : Int, V i = .int .i32 z := fun i hi => by
      obtain ⟨x0, e0, _, _⟩ := DataW.trod_int Try.underlying21 (hx i (by omega)).2
      injection e0 with e0
      exact ⟨x0, e0⟩
    obtain ⟨q, hq⟩ := choose_lt hint
    refine ⟨some a, len1, m', (List.range len1).map q, rfl, ⟨fun hp => ?_, by simp, hl, hmx, (fun h => by cases h)⟩, fun k hk => ?_⟩
    rotate_left
    · have e := congrArg Prod.fst hxe
      simp only at e
      have := hk _ (by rw [e]; unfold DataW.weights; rw [Try.underlying52]; exact List.mem_cons_self ..)
      rw [bI32n, List.length_map, List.length_range] at this
      exact Nat.le_trans (Nat.mul_le_mul_right _ (Nat.le_add_right _ _)) this
    rw [i32s_length, List.length_map, List.length_range] at hp
    have hs0 := (hx 0 (by omega)).1
    have hs : a.spot = none := by
      have := spot_none hs0
      simpa [Addr.add] using this
    obtain ⟨b, o, sp⟩ := a
    simp only at hs
    subst hs
    have hb : b < W.heap.size := by
      rw [add_plain] at hs0
      rcases Nat.lt_or_ge b W.heap.size with h | h
      · exact h
      · unfold World.cell? at hs0
        dsimp only at hs0
        rw [Array.getElem?_eq_none h] at hs0
        cases hs0
    refine ⟨b, o, rfl, Nat.zero_le _, hb, fun j u hj => ?_⟩
    have hjl : j < len1 := by
      have := (List.getElem?_eq_some_iff.1 hj).1
      rw [i32s_length, List.length_map, List.length_range] at this
      exact this
    have h1 := (hx j (by omega)).1
    rw [add_plain, hq j hjl] at h1
    have h2 : (i32s ((List.range len1).map q))[j]? = some (.int .i32 (q j)) := i32s_at (by simp [hjl])
    rw [h2] at hj
    injection hj with hj
    rw [← hj]
    exact h1
end Go.Proofs.Ytbhcgjahlfpjoaa
