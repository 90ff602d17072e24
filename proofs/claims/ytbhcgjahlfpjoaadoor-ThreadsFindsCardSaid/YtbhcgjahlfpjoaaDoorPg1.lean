/- Programs in memory; progs.right. -/
import Derived.Test.YtbhcgjahlfpjoaaDoorOpT3
import Derived.Test.YtbhcgjahlfpjoaaDoorRefR3
namespace Go.Proofs.YtbhcgjahlfpjoaaDoor
open Go.RowKit

theorem _root_.Go.RowKit.Below.onto {w w1 w2 : World} (h : Below w.heap.size w w1) (h' : Below w1.heap.size w1 w2) : Below w.heap.size w w2 := h.trans (h'.mono h.size)
/-- An instruction, with where its set lies. -/
structure MI where
  op : Int
  out : Int
  arg : Int
  A : Option Addr
  n : Nat
  c : Nat
  at_ : Int
  set : List Rg
def MI.cells (x : MI) : List Value := [.int .i64 x.op, .int .i64 x.out, .int .i64 x.arg, .slice x.A x.n x.c, .int .i64 x.at_]
def miCells (L : List MI) : List Value := L.flatMap MI.cells
/-- May an instruction be, in a program of N of them and caps places? -/
def InstOK (N caps : Int) (x : MI) : Prop :=
  ((x.op = 1 ∨ x.op = 6) ∧ x.out = 0 ∧ x.arg = 0 ∧ x.n = 0 ∧ x.at_ = 0) ∨
  (x.op = 2 ∧ 0 ≤ x.out ∧ x.out < N ∧ x.arg = 0 ∧ 0 < x.n ∧ Canon x.set ∧ x.at_ = 0) ∨
  (x.op = 3 ∧ 0 ≤ x.out ∧ x.out < N ∧ 0 ≤ x.arg ∧ x.arg < N ∧ x.n = 0 ∧ x.at_ = 0) ∨
  (x.op = 4 ∧ 0 ≤ x.out ∧ x.out < N ∧ 2 ≤ x.arg ∧ x.arg < caps ∧ x.n = 0 ∧ x.at_ = 0) ∨
  (x.op = 5 ∧ 0 ≤ x.out ∧ x.out < N ∧ x.arg = 0 ∧ x.n = 0 ∧ (x.at_ = 1 ∨ x.at_ = 2 ∨ x.at_ = 4 ∨ x.at_ = 8 ∨ x.at_ = 16 ∨ x.at_ = 32))
/-- An instruction's set can be read. -/
def MI.In (w : World) (x : MI) : Prop := RgIn w x.A x.n x.c x.set
theorem MI.In.below {w w' : World} {x : MI} (h : x.In w) (hb : Below w.heap.size w w') : x.In w' := RgIn.below h hb
theorem miCells_length (L : List MI) : (miCells L).length = L.length * 5 := by
  induction L with
  | nil => rfl
  | cons p l ih => simp only [miCells, List.flatMap_cons, List.length_append, MI.cells, List.length_cons, List.length_nil] at *; omega
theorem miCells_at : ∀ (L : List MI) (k : Nat) (x : MI), L[k]? = some x → ∀ j, j < 5 → (miCells L)[k * 5 + j]? = x.cells[j]?
  | [], k, x, h, _, _ => by simp at h
  | y :: L, 0, x, h, j, hj => by
    simp only [List.getElem?_cons_zero, Option.some.injEq] at h
    subst h
    have e : miCells (y :: L) = y.cells ++ miCells L := rfl
    rw [e, Nat.zero_mul, Nat.zero_add, List.getElem?_append_left (by simp [MI.cells]; omega)]
  | y :: L, k + 1, x, h, j, hj => by
    rw [List.getElem?_cons_succ] at h
    have e : miCells (y :: L) = y.cells ++ miCells L := rfl
    rw [e, List.getElem?_append_right (by simp [MI.cells]; omega), show (k + 1) * 5 + j - y.cells.length = k * 5 + j by simp [MI.cells]; omega]
    exact miCells_at L k x h j hj
/-- A program's instructions, in memory. -/
structure PgIn (w : World) (A : Option Addr) (n c : Nat) (L : List MI) : Prop where
  rd : Rd w 0 w.heap.size A (miCells L)
  len : L.length = n
  le : n ≤ c
  max : c ≤ maxLen
  nil : A = none → n = 0
  sets : ∀ x ∈ L, x.In w
theorem PgIn.below {w w' : World} {A : Option Addr} {n c : Nat} {L : List MI} (h : PgIn w A n c L) (hb : Below w.heap.size w w') : PgIn w' A n c L :=
  ⟨(h.rd.same (.of_below hb (Nat.le_refl _))).mono (Nat.le_refl _) hb.size, h.len, h.le, h.max, h.nil, fun x hx => (h.sets x hx).below hb⟩
theorem PgIn.at {w : World} {A : Option Addr} {n c : Nat} {L : List MI} (h : PgIn w A n c L) {k : Nat} (hk : k < n) :
    ∃ b o x, A = some ⟨b, o, none⟩ ∧ b < w.heap.size ∧ L[k]? = some x ∧ x.In w ∧ (∀ W, Same 0 w.heap.size w W → W.cell? ⟨b, o + k * 5, none⟩ = some (.int .i64 x.op) ∧ W.cell? ⟨b, o + k * 5 + 1, none⟩ = some (.int .i64 x.out) ∧ W.cell? ⟨b, o + k * 5 + 2, none⟩ = some (.int .i64 x.arg) ∧ W.cell? ⟨b, o + k * 5 + 3, none⟩ = some (.slice x.A x.n x.c) ∧ W.cell? ⟨b, o + k * 5 + 4, none⟩ = some (.int .i64 x.at_)) := by
  obtain ⟨b, o, hA, _, hb, hc⟩ := h.rd (by rw [miCells_length, h.len]; omega)
  have hk' : k < L.length := by rw [h.len]; exact hk
  have hp : L[k]? = some L[k] := List.getElem?_eq_getElem hk'
  have hx := miCells_at L k _ hp
  refine ⟨b, o, L[k], hA, hb, hp, h.sets _ (List.getElem_mem _), fun W hW => ?_⟩
  have key : ∀ j v, j < 5 → (L[k]).cells[j]? = some v → W.cell? ⟨b, o + (k * 5 + j), none⟩ = some v := fun j v hj hv => (hW.cell (p := ⟨b, o + (k * 5 + j), none⟩) (Nat.zero_le _) hb).trans (hc _ _ ((hx j hj).trans hv))
  refine ⟨?_, ?_, ?_, ?_, ?_⟩
  · exact key 0 _ (by omega) rfl
  · rw [Nat.add_assoc]; exact key 1 _ (by omega) rfl
  · rw [Nat.add_assoc]; exact key 2 _ (by omega) rfl
  · rw [Nat.add_assoc]; exact key 3 _ (by omega) rfl
  · rw [Nat.add_assoc]; exact key 4 _ (by omega) rfl

/-- Is it an instruction's place? -/
def hereB (n : Nat) (pc : Int) : Bool := decide (0 ≤ pc ∧ pc < (n : Int))
theorem hereT {n : Nat} {pc : Int} (h : 0 ≤ pc ∧ pc < (n : Int)) : hereB n pc = true := decide_eq_true h
theorem hereF {n : Nat} {pc : Int} (h : ¬ (0 ≤ pc ∧ pc < (n : Int))) : hereB n pc = false := decide_eq_false h
theorem here_any {w : World} {g : Nat} {A : Option Addr} {n c : Nat} {st cp : Int} (hB : Blk w g 28 #[.slice A n c, .int .i64 st, .int .i64 cp]) (_hn : n ≤ maxLen) (pc : Int) :
    Calls Tryd.prog 55 #[.int .i64 pc, .pointer (some ⟨g, 0, none⟩)] w fun e w' => e = .returned (.bool (hereB n pc)) ∧ w = w' := by
  have c1 := hB.cell 0
  simp only [List.getElem?_toArray, List.getElem?_cons_zero] at c1
  unfold maxLen at _hn
  clear hB
  by_cases h0 : 0 ≤ pc
  · have d0 : decide (0 ≤ pc) = true := decide_eq_true h0
    by_cases h1 : pc < (n : Int)
    · rw [hereT ⟨h0, h1⟩]
      go_enter Tryd.func55, Tryd.ntmps55
      go_wp2_with fail
      go_ret
      exact ⟨rfl, rfl⟩
    · rw [hereF (fun h => h1 h.2)]
      go_enter Tryd.func55, Tryd.ntmps55
      go_wp2_with fail
      go_ret
      exact ⟨rfl, rfl⟩
  · have d0 : decide (0 ≤ pc) = false := decide_eq_false h0
    rw [hereF (fun h => h0 h.1)]
    go_enter Tryd.func55, Tryd.ntmps55
    go_wp2_with fail
    go_ret
    exact ⟨rfl, rfl⟩
end Go.Proofs.YtbhcgjahlfpjoaaDoor
