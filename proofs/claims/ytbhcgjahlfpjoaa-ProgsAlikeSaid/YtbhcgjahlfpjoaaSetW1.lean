/- The reference's readers of lists: Same, Has, Right. -/
import Derived.Test.YtbhcgjahlfpjoaaProg
import Derived.Test.YtbhcgjahlfpjoaaSetM
import Derived.Test.YtbhcgjahlfpjoaaMem
import Derived.Deep.LoopGhost
import Derived.Deep.QuietTactic
import Derived.Shelf.SlicesE.Equal
import Derived.Laws.StructEq
import Derived.IntWalk
import Derived.WalkKit
import Derived.Lib.Hide
namespace Go.Proofs.Ytbhcgjahlfpjoaa
open Go.RowKit

theorem retB {a b : Bool} (h : a = b) : Ending.returned (.bool a) = .returned (.bool b) := by rw [h]
theorem retI {k : IntKind} {a b : Int} (h : a = b) : Ending.returned (.int k a) = .returned (.int k b) := by rw [h]

def rgCell (p : Rg) : List Value := [.int .i32 p.1, .int .i32 p.2]
def rgCells (l : List Rg) : List Value := l.flatMap rgCell
theorem rgCells_length (l : List Rg) : (rgCells l).length = l.length * 2 := by
  induction l with
  | nil => rfl
  | cons a r ih => simp [rgCells] at ih ⊢; rw [ih]; simp [rgCell]; omega
theorem rgCells_one (l : List Rg) : ∀ u ∈ rgCells l, u.oneCell' = true := by
  intro u hu
  obtain ⟨p, _, hp⟩ := List.mem_flatMap.1 hu
  simp [rgCell] at hp
  rcases hp with rfl | rfl <;> rfl
theorem rgCells_append (a b : List Rg) : rgCells (a ++ b) = rgCells a ++ rgCells b := by simp [rgCells]
theorem rgCells_at : ∀ (l : List Rg) (k : Nat) (p : Rg), l[k]? = some p → (rgCells l)[k * 2]? = some (.int .i32 p.1) ∧ (rgCells l)[k * 2 + 1]? = some (.int .i32 p.2)
  | [], k, p, h => by cases h
  | a :: r, 0, p, h => by simp at h; subst h; exact ⟨rfl, rfl⟩
  | a :: r, k + 1, p, h => by
    have := rgCells_at r k p (by simpa using h)
    have e : ∀ j, (rgCells (a :: r))[j + 2]? = (rgCells r)[j]? := fun j => by simp [rgCells, rgCell]
    rw [show (k + 1) * 2 = k * 2 + 2 by omega, show k * 2 + 2 + 1 = (k * 2 + 1) + 2 by omega, e, e]
    exact this

/-- A list of ranges that lies in memory. -/
structure RgIn (w : World) (A : Option Addr) (n c : Nat) (l : List Rg) : Prop where
  rd : Rd w 0 w.heap.size A (rgCells l)
  len : l.length = n
  le : n ≤ c
  max : c ≤ maxLen
  nil : A = none → n = 0
  fits : ∀ p ∈ l, (-2147483648 ≤ p.1 ∧ p.1 ≤ 2147483647) ∧ (-2147483648 ≤ p.2 ∧ p.2 ≤ 2147483647)
theorem RgIn.below {w w' : World} {A : Option Addr} {n c : Nat} {l : List Rg} (h : RgIn w A n c l) (hb : Below w.heap.size w w') : RgIn w' A n c l :=
  ⟨(h.rd.same (.of_below hb (Nat.le_refl _))).mono (Nat.le_refl _) hb.size, h.len, h.le, h.max, h.nil, h.fits⟩
theorem RgIn.drewN {w : World} {A : Option Addr} {n c : Nat} {l : List Rg} (h : RgIn w A n c l) (d : Nat) : RgIn (w.drewN d) A n c l := h.below (Below.refl _ _).drewN
theorem RgIn.at {w : World} {A : Option Addr} {n c : Nat} {l : List Rg} (h : RgIn w A n c l) {k : Nat} (hk : k < n) :
    ∃ b o p, A = some ⟨b, o, none⟩ ∧ b < w.heap.size ∧ l[k]? = some p ∧ (∀ W, Same 0 w.heap.size w W → W.cell? ⟨b, o + k * 2, none⟩ = some (.int .i32 p.1) ∧ W.cell? ⟨b, o + k * 2 + 1, none⟩ = some (.int .i32 p.2)) ∧
      (-2147483648 ≤ p.1 ∧ p.1 ≤ 2147483647) ∧ (-2147483648 ≤ p.2 ∧ p.2 ≤ 2147483647) := by
  obtain ⟨b, o, hA, _, hb, hc⟩ := h.rd (by rw [rgCells_length, h.len]; omega)
  have hk' : k < l.length := by rw [h.len]; exact hk
  have hp : l[k]? = some l[k] := List.getElem?_eq_getElem hk'
  obtain ⟨c1, c2⟩ := rgCells_at l k _ hp
  exact ⟨b, o, l[k], hA, hb, hp, fun W hW => ⟨(hW.cell (p := ⟨b, o + k * 2, none⟩) (Nat.zero_le _) hb).trans (hc _ _ c1), (hW.cell (p := ⟨b, o + k * 2 + 1, none⟩) (Nat.zero_le _) hb).trans (hc _ _ c2)⟩, h.fits _ (List.getElem_mem hk')⟩

theorem eqInRg (x y : Rg) (w : World) : (Op.equalIn 10000 71 (.agg #[.int .i32 x.1, .int .i32 x.2]) (.agg #[.int .i32 y.1, .int .i32 y.2])).run Try.prog w = .ok (decide (x = y)) w := by
  have u3 := Try.underlying21
  have a3 := Try.isAgg21
  have z3 := Try.sizeOf21
  have hS : Try.prog.underlying 71 = some (.struct (Try.prog.fieldsOf 71)) := by kernel_rfl
  have hp : Try.prog.stoodInHeld 71 = false := by kernel_rfl
  rw [show (10000 : Nat) = 9999 + 1 from rfl, run_equalIn_agg w 9999 71 _ _ hS hp]
  simp only [Program.fieldsOf, Try.underlying71]
  go_simp
  obtain ⟨x1, x2⟩ := x
  obtain ⟨y1, y2⟩ := y
  by_cases h1 : x1 = y1 <;> by_cases h2 : x2 = y2 <;> simp [h1, h2]
theorem guardRg : GuardAt Try.prog 71 (fun x : Rg => .agg (rgCell x).toArray) := GuardAt.agg _ (by kernel_rfl)
theorem eqRg : EqlAt Try.prog 71 (fun x : Rg => .agg (rgCell x).toArray) (fun x y => decide (x = y)) :=
  ⟨fun x y w => by simp only [rgCell]; rw [run_eql_struct, eqInRg]; rfl, guardRg⟩

set_option maxHeartbeats 1000000 in
theorem refSame_any {w : World} {A B : Option Addr} {n c m d : Nat} {l r : List Rg} (hA : RgIn w A n c l) (hB : RgIn w B m d r) :
    Calls Try.prog 66 #[.slice A n c, .slice B m d] w fun e w' => e = .returned (.bool (decide (l = r))) ∧ ∃ q, w' = w.drewN q := by
  have h1 := hA.max
  have h2 := hA.le
  have h3 := hB.max
  have h4 := hB.le
  unfold maxLen at h1 h3
  have hnc : (n : Int) ≤ 9223372036854775807 := by omega
  have hmc : (m : Int) ≤ 9223372036854775807 := by omega
  by_cases hnm : n = m
  · subst hnm
    have HA := Lib.hid hA
    have HB := Lib.hid hB
    clear hA hB h1 h2 h3 h4 hmc
    go_enter Try.func66, Try.ntmps66
    go_wp2_with fail
    go_loopg [5] (n + 1) (fun q i wr => ∃ (j : Nat), q = n + 1 - j ∧ j ≤ n ∧ i = .int .i64 (j : Int) ∧ Hid ((∃ d, wr = w.drewN d) ∧ ∀ k, k < j → l[k]? = r[k]?))
    case atStart => exact ⟨0, rfl, by omega, rfl, Lib.hid ⟨⟨0, rfl⟩, by intro k hk; omega⟩⟩
    case round =>
      obtain ⟨j, hgk, hj, rfl, HR⟩ := hrel
      have HG := Lib.hid hgk
      clear hgk
      by_cases hlt : j < n
      · obtain ⟨b, o, p, rfl, hb, hp, hc, _⟩ := HA.out.at hlt
        obtain ⟨b', o', p', rfl, hb', hp', hc', _⟩ := HB.out.at hlt
        obtain ⟨c1, c2⟩ := hc wr (by obtain ⟨d, rfl⟩ := HR.out.1; exact (Same.refl _ _ _).drewN d)
        obtain ⟨c3, c4⟩ := hc' wr (by obtain ⟨d, rfl⟩ := HR.out.1; exact (Same.refl _ _ _).drewN d)
        have hne := fun W => eqInRg p p' W
        have hgd := fun a b W => guardRg .neq a b p p' W
        simp only [rgCell] at hgd
        have hi : (j : Int) < (n : Int) := by omega
        have HP := Lib.hid hp
        have HP' := Lib.hid hp'
        have HLT := Lib.hid hlt
        clear hc hc' hb hb' hp hp' hlt HA HB
        go_wp2_with fail
        by_cases heq : p = p'
        · subst heq
          go_quiet (fail)
          go_wp2_with fail
          go_roundg (n + 1 - (j + 1))
          case measure => have := HG.out; have := HLT.out; omega
          case rel =>
            refine ⟨j + 1, rfl, by have := HLT.out; omega, by go_num, ?_⟩
            obtain ⟨⟨d, rfl⟩, h⟩ := HR.out
            refine Lib.hid ⟨⟨_, World.drewN_drewN _ _ _⟩, fun k hk => ?_⟩
            rcases Nat.lt_succ_iff_lt_or_eq.1 hk with h1 | h1
            · exact h k h1
            · subst h1; rw [HP.out, HP'.out]
        · have hd : decide (p = p') = false := decide_eq_false heq
          have HQ := Lib.hid heq
          clear heq
          go_quiet (fail)
          go_wp2_with fail
          go_ret
          refine ⟨retB ?_, ?_⟩
          · symm
            apply decide_eq_false
            intro h
            have h1 := HP.out
            rw [h, HP'.out] at h1
            injection h1 with h1
            exact HQ.out h1.symm
          · obtain ⟨⟨d, rfl⟩, h⟩ := HR.out
            exact ⟨_, World.drewN_drewN _ _ _⟩
      · have hi : (n : Int) ≤ (j : Int) := by omega
        go_wp2_with fail
        go_ret
        refine ⟨retB ?_, HR.out.1⟩
        symm
        apply decide_eq_true
        apply List.ext_getElem?
        intro k
        have h1 := HA.out.len
        have h2 := HB.out.len
        rcases Nat.lt_or_ge k j with h | h
        · exact HR.out.2 k h
        · rw [List.getElem?_eq_none (by omega), List.getElem?_eq_none (by omega)]
  · have hne : ((n : Int) == (m : Int)) = false := by rw [beq_eq_false_iff_ne]; omega
    have hlr : decide (l = r) = false := decide_eq_false fun h => hnm (by rw [← hA.len, ← hB.len, h])
    rw [hlr]
    clear hlr hA hB
    go_enter Try.func66, Try.ntmps66
    go_wp2_with fail
    go_ret
    exact ⟨rfl, 0, rfl⟩
end Go.Proofs.Ytbhcgjahlfpjoaa
