/- What the bound on what is read gives: so many instructions, so long sets, so long lists. -/
import Derived.Test.YtbhcgjahlfpjoaaRowP
import Derived.JoinedCond
namespace Go.Proofs.Ytbhcgjahlfpjoaa
open Go.ChangeShapes Go.WideShapes Go.ChangeAt Go.RowKit Go.Deep

theorem bulk_one {H : Type} (d : DataW H) : 1 ≤ Rows.uptoBulk d := by
  cases d with
  | lit l => cases l <;> simp [Rows.uptoBulk]
  | nil => simp [Rows.uptoBulk]
  | ptr d => simp [Rows.uptoBulk]
  | slice elems spare => simp [Rows.uptoBulk]
  | agg parts => simp [Rows.uptoBulk]
  | iface t d => simp [Rows.uptoBulk]
  | map entries => simp [Rows.uptoBulk]
  | held h => simp [Rows.uptoBulk]
theorem bulk_part {H : Type} {d : DataW H} {l : List (DataW H)} (h : d ∈ l) : Rows.uptoBulk d ≤ Rows.uptoBulkAll l := by
  induction l with
  | nil => cases h
  | cons x r ih =>
    simp only [Rows.uptoBulkAll]
    rcases List.mem_cons.1 h with e | e
    · subst e; omega
    · have := ih e; omega
theorem bulk_length {H : Type} (l : List (DataW H)) : l.length ≤ Rows.uptoBulkAll l := by
  induction l with
  | nil => simp [Rows.uptoBulkAll]
  | cons x r ih => have := bulk_one x; simp only [Rows.uptoBulkAll, List.length_cons]; omega
theorem bulk_elems {H : Type} (elems spare : List (DataW H)) : Rows.uptoBulkAll elems + 1 ≤ Rows.uptoBulk (.slice elems spare) := by
  simp only [Rows.uptoBulk]; omega
theorem bulk_agg {H : Type} {d : DataW H} {l : List (DataW H)} (h : d ∈ l) : Rows.uptoBulk d ≤ Rows.uptoBulk (.agg l) := by
  have := bulk_part h
  simp only [Rows.uptoBulk]; omega
theorem bulk_bound {H : Type} {l : List (DataW H)} (hk : Rows.uptoSmall H l = true) : Rows.uptoBulkAll l ≤ 1048576 := of_decide_eq_true hk
/-- A slice's length. -/
theorem slice_bulk {H : Type} {enc : TypeId × Value → H} {W : World} {t e : TypeId} {fuel : Nat} {A : Option Addr} {n c : Nat} {x : DataW H × List MemPlace} (ht : Try.prog.underlying t = some (.slice e)) (hm : DataW.trod enc Try.prog W 0 (fun _ => true) true fuel t [.slice A n c] = some x) :
    n ≤ Rows.uptoBulk x.1 := by
  rcases open_slice ht hm with ⟨h1, _⟩ | ⟨a, len, cap, m, n', D, Pl, h1, _, hl, hmx, hme, hxe, hx⟩
  · simp only [List.cons.injEq, and_true, Value.slice.injEq] at h1
    obtain ⟨_, rfl, _⟩ := h1
    exact Nat.zero_le _
  · simp only [List.cons.injEq, and_true, Value.slice.injEq] at h1
    obtain ⟨_, rfl, _⟩ := h1
    have e1 := congrArg Prod.fst hxe
    simp only at e1
    rw [e1]
    have := bulk_length ((List.range n).map D)
    have := bulk_elems ((List.range n).map D) ((List.range (m - n)).map fun j => D (n + j))
    simp only [List.length_map, List.length_range] at *
    omega
theorem bulk_three {H : Type} (D0 D1 : Nat → DataW H) : ∀ l : List Nat, l.length * 3 ≤ Rows.uptoBulkAll (l.map fun i => DataW.agg [D0 i, D1 i])
  | [] => by simp
  | i :: l => by
    have := bulk_three D0 D1 l
    have := bulk_one (D0 i)
    have := bulk_one (D1 i)
    simp only [List.map_cons, List.length_cons, Rows.uptoBulkAll, Rows.uptoBulk]
    omega
/-- A list of ranges: three for each. -/
theorem rg_bulk {H : Type} {enc : TypeId × Value → H} {W : World} {fuel : Nat} {A : Option Addr} {n c : Nat} {x : DataW H × List MemPlace} (hm : DataW.trod enc Try.prog W 0 (fun _ => true) true fuel 24 [.slice A n c] = some x) :
    n * 3 ≤ Rows.uptoBulk x.1 := by
  rcases open_slice_pairs Try.underlying24 Try.underlying71 cRg rfl rfl cI32 cI32 hm with ⟨h1, _⟩ | ⟨a, len1, cap, m', n', V0, V1, D0, D1, P0, P1, h1, _, hl, hmx, hme, hxe, hx⟩
  · simp only [List.cons.injEq, and_true, Value.slice.injEq] at h1
    obtain ⟨_, rfl, _⟩ := h1
    omega
  · simp only [List.cons.injEq, and_true, Value.slice.injEq] at h1
    obtain ⟨_, rfl, _⟩ := h1
    have e1 := congrArg Prod.fst hxe
    simp only at e1
    rw [e1]
    have h3 := bulk_three D0 D1 (List.range n)
    rw [List.length_range] at h3
    refine Nat.le_trans h3 ?_
    simp only [Rows.uptoBulk]
    omega
theorem il_bulk {H : Type} {enc : TypeId × Value → H} {W : World} {A : Option Addr} {n c : Nat} {d : DataW H} {p : List MemPlace} (h : DataW.Trod enc Try.prog W 0 (fun _ => true) true 42 (.slice A n c) d p) : n ≤ Rows.uptoBulk d := by
  obtain ⟨m, hm⟩ := h
  exact slice_bulk Try.underlying42 hm
theorem inst_bulk {H : Type} {enc : TypeId × Value → H} {W : World} {fuel : Nat} {y : MI} {x : DataW H × List MemPlace} (hm : DataW.trod enc Try.prog W 0 (fun _ => true) true fuel 60 y.cells = some x) : y.n * 3 ≤ Rows.uptoBulk x.1 := by
  obtain ⟨xs, n, _, hxe, hl, hxl, hf⟩ := DataW.trod_struct Try.underlying60 hm
  obtain ⟨y0, y1, y2, y3, y4, rfl⟩ := list5 (show xs.length = 5 from hxl)
  have h3 : DataW.trod enc Try.prog W 0 (fun _ => true) true n 24 [.slice y.A y.n y.c] = some y3 := by have := hf 3 _ rfl; simpa [cRgs, MI.cells] using this
  have := rg_bulk h3
  refine Nat.le_trans this ?_
  rw [congrArg Prod.fst hxe]
  exact bulk_agg (by simp)
set_option maxRecDepth 100000 in
theorem pg_bulk {H : Type} {enc : TypeId × Value → H} {W : World} {base : Nat} {A : Option Addr} {n c : Nat} {st cp : Int} {L : List MI} {d : DataW H} {p : List MemPlace} (hA : PgIn W A n c L) (hv : Value.okWide Try.prog W .any base 38 (.agg #[.slice A n c, .int .i64 st, .int .i64 cp])) (h : DataW.Trod enc Try.prog W 0 (fun _ => true) true 38 (.agg #[.slice A n c, .int .i64 st, .int .i64 cp]) d p) :
    n ≤ Rows.uptoBulk d ∧ ∀ x ∈ L, x.n * 3 ≤ Rows.uptoBulk d := by
  obtain ⟨v0, v1, v2, y0, y1, y2, fu, he, rfl, _, h0, h1, h2⟩ := Go.Joins.open_agg3 Try.underlying38 (by kernel_rfl) (by kernel_rfl) hv h
  simp only [Value.agg.injEq, Array.mk.injEq, List.cons.injEq, and_true] at he
  obtain ⟨rfl, rfl, rfl⟩ := he
  have hy : Rows.uptoBulk y0.1 ≤ Rows.uptoBulk (.agg [y0.1, y1.1, y2.1]) := bulk_agg (by simp)
  refine ⟨Nat.le_trans (slice_bulk Try.underlying36 h0) hy, fun x hx' => Nat.le_trans ?_ hy⟩
  obtain ⟨i, hi, rfl⟩ := List.getElem_of_mem hx'
  have hin : i < n := by rw [← hA.len]; exact hi
  rcases open_slice Try.underlying36 h0 with ⟨e0, _⟩ | ⟨a, len, cap, m, n', D, Pl, e0, _, hl, hmx, hme, hxe, hx⟩
  · simp only [List.cons.injEq, and_true, Value.slice.injEq] at e0
    obtain ⟨_, rfl, _⟩ := e0
    omega
  · simp only [List.cons.injEq, and_true, Value.slice.injEq] at e0
    obtain ⟨rfl, rfl, rfl⟩ := e0
    simp only [if_true] at hme
    subst hme
    rw [cInst] at hx
    obtain ⟨cs', g1, g2⟩ := hx i (by omega)
    obtain ⟨b, o, z, e1, _, hz, _, hc⟩ := hA.at hin
    injection e1 with e1
    subst e1
    rw [List.getElem?_eq_getElem hi] at hz
    injection hz with hz
    subst hz
    obtain ⟨k0, k1, k2, k3, k4⟩ := hc W (Same.refl _ _ _)
    obtain ⟨_, hlen, hget⟩ := World.cells?_some g1
    have hcs : cs' = (L[i]).cells := by
      obtain ⟨c0, c1, c2, c3, c4, rfl⟩ := list5 hlen
      have q0 := hget 0 (by omega)
      have q1 := hget 1 (by omega)
      have q2 := hget 2 (by omega)
      have q3 := hget 3 (by omega)
      have q4 := hget 4 (by omega)
      rw [add_add, add_plain] at q0 q1 q2 q3 q4
      simp only [Nat.add_zero, ← Nat.add_assoc, List.getElem?_cons_zero, List.getElem?_cons_succ] at q0 q1 q2 q3 q4
      rw [k0] at q0; rw [k1] at q1; rw [k2] at q2; rw [k3] at q3; rw [k4] at q4
      injection q0 with q0; injection q1 with q1; injection q2 with q2; injection q3 with q3; injection q4 with q4
      subst q0; subst q1; subst q2; subst q3; subst q4
      rfl
    rw [hcs] at g2
    refine Nat.le_trans (inst_bulk g2) ?_
    rw [congrArg Prod.fst hxe]
    have h5 : D i ∈ (List.range n).map D := List.mem_map.2 ⟨i, List.mem_range.2 hin, rfl⟩
    have := bulk_part h5
    have := bulk_elems ((List.range n).map D) ((List.range (m - n)).map fun j => D (n + j))
    simp only at *
    omega
end Go.Proofs.Ytbhcgjahlfpjoaa
