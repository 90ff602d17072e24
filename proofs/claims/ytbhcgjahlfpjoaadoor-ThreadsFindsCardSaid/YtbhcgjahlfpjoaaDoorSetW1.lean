/- The reference's readers of lists: Same, Has, Right. -/
import Derived.Test.YtbhcgjahlfpjoaaDoorProg
import Derived.Test.YtbhcgjahlfpjoaaDoorSetM
import Derived.Test.YtbhcgjahlfpjoaaDoorMem
import Derived.Deep.LoopGhost
import Derived.Deep.QuietTactic
import Derived.Shelf.SlicesE.Equal
import Derived.Laws.StructEq
import Derived.IntWalk
import Derived.WalkKit
import Derived.Lib.Hide
namespace Go.Proofs.YtbhcgjahlfpjoaaDoor
open Go.RowKit

theorem retB {a b : Bool} (h : a = b) : Ending.returned (.bool a) = .returned (.bool b) := by rw [h]
theorem retI {k : IntKind} {a b : Int} (h : a = b) : Ending.returned (.int k a) = .returned (.int k b) := by rw [h]

def rgCell (p : Rg) : List Value := [.int .i32 p.1, .int .i32 p.2]
def rgCells (l : List Rg) : List Value := l.flatMap rgCell
theorem rgCells_length (l : List Rg) : (rgCells l).length = l.length * 2 := by
  induction l with
  | nil => rfl
  | cons a r ih => simp [rgCells] at ih ⊢; rw [ih]; simp [rgCell]; omega
theorem rgCells_one (l : List Rg) : ∀ u ∈ rgCells l, u.oneCell' = true := by
  intro u hu
  obtain ⟨p, _, hp⟩ := List.mem_flatMap.1 hu
  simp [rgCell] at hp
  rcases hp with rfl | rfl <;> rfl
theorem rgCells_append (a b : List Rg) : rgCells (a ++ b) = rgCells a ++ rgCells b := by simp [rgCells]
theorem rgCells_at : ∀ (l : List Rg) (k : Nat) (p : Rg), l[k]? = some p → (rgCells l)[k * 2]? = some (.int .i32 p.1) ∧ (rgCells l)[k * 2 + 1]? = some (.int .i32 p.2)
  | [], k, p, h => by cases h
  | a :: r, 0, p, h => by simp at h; subst h; exact ⟨rfl, rfl⟩
  | a :: r, k + 1, p, h => by
    have := rgCells_at r k p (by simpa using h)
    have e : ∀ j, (rgCells (a :: r))[j + 2]? = (rgCells r)[j]? := fun j => by simp [rgCells, rgCell]
    rw [show (k + 1) * 2 = k * 2 + 2 by omega, show k * 2 + 2 + 1 = (k * 2 + 1) + 2 by omega, e, e]
    exact this

/-- A list of ranges that lies in memory. -/
structure RgIn (w : World) (A : Option Addr) (n c : Nat) (l : List Rg) : Prop where
  rd : Rd w 0 w.heap.size A (rgCells l)
  len : l.length = n
  le : n ≤ c
  max : c ≤ maxLen
  nil : A = none → n = 0
  fits : ∀ p ∈ l, (-2147483648 ≤ p.1 ∧ p.1 ≤ 2147483647) ∧ (-2147483648 ≤ p.2 ∧ p.2 ≤ 2147483647)
theorem RgIn.below {w w' : World} {A : Option Addr} {n c : Nat} {l : List Rg} (h : RgIn w A n c l) (hb : Below w.heap.size w w') : RgIn w' A n c l :=
  ⟨(h.rd.same (.of_below hb (Nat.le_refl _))).mono (Nat.le_refl _) hb.size, h.len, h.le, h.max, h.nil, h.fits⟩
theorem RgIn.drewN {w : World} {A : Option Addr} {n c : Nat} {l : List Rg} (h : RgIn w A n c l) (d : Nat) : RgIn (w.drewN d) A n c l := h.below (Below.refl _ _).drewN
theorem RgIn.at {w : World} {A : Option Addr} {n c : Nat} {l : List Rg} (h : RgIn w A n c l) {k : Nat} (hk : k < n) :
    ∃ b o p, A = some ⟨b, o, none⟩ ∧ b < w.heap.size ∧ l[k]? = some p ∧ (∀ W, Same 0 w.heap.size w W → W.cell? ⟨b, o + k * 2, none⟩ = some (.int .i32 p.1) ∧ W.cell? ⟨b, o + k * 2 + 1, none⟩ = some (.int .i32 p.2)) ∧
      (-2147483648 ≤ p.1 ∧ p.1 ≤ 2147483647) ∧ (-2147483648 ≤ p.2 ∧ p.2 ≤ 2147483647) := by
  obtain ⟨b, o, hA, _, hb, hc⟩ := h.rd (by rw [rgCells_length, h.len]; omega)
  have hk' : k < l.length := by rw [h.len]; exact hk
  have hp : l[k]? = some l[k] := List.getElem?_eq_getElem hk'
  obtain ⟨c1, c2⟩ := rgCells_at l k _ hp
  exact ⟨b, o, l[k], hA, hb, hp, fun W hW => ⟨(hW.cell (p := ⟨b, o + k * 2, none⟩) (Nat.zero_le _) hb).trans (hc _ _ c1), (hW.cell (p := ⟨b, o + k * 2 + 1, none⟩) (Nat.zero_le _) hb).trans (hc _ _ c2)⟩, h.fits _ (List.getElem_mem hk')⟩

theorem eqInRg (x y : Rg) (w : World) : (Op.equalIn 10000 66 (.agg #[.int .i32 x.1, .int .i32 x.2]) (.agg #[.int .i32 y.1, .int .i32 y.2])).run Tryd.prog w = .ok (decide (x = y)) w := by
  have u3 := Tryd.underlying21
  have a3 := Tryd.isAgg21
  have z3 := Tryd.sizeOf21
  have hS : Tryd.prog.underlying 66 = some (.struct (Tryd.prog.fieldsOf 66)) := by kernel_rfl
  have hp : Tryd.prog.stoodInHeld 66 = false := by kernel_rfl
  rw [show (10000 : Nat) = 9999 + 1 from rfl, run_equalIn_agg w 9999 66 _ _ hS hp]
  simp only [Program.fieldsOf, Tryd.underlying66]
  go_simp
  obtain ⟨x1, x2⟩ := x
  obtain ⟨y1, y2⟩ := y
  by_cases h1 : x1 = y1 <;> by_cases h2 : x2 = y2 <;> simp [h1, h2]
theorem guardRg : GuardAt Tryd.prog 66 (fun x : Rg => .agg (rgCell x).toArray) := GuardAt.agg _ (by kernel_rfl)
theorem eqRg : EqlAt Tryd.prog 66 (fun x : Rg => .agg (rgCell x).toArray) (fun x y => decide (x = y)) :=
  ⟨fun x y w => by simp only [rgCell]; rw [run_eql_struct, eqInRg]; rfl, guardRg⟩

end Go.Proofs.YtbhcgjahlfpjoaaDoor
