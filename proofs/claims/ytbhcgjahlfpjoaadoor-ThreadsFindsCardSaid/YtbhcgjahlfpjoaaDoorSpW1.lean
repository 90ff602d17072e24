/- spans: the iterator's contract. -/
import Derived.RangeFuncNested
import Derived.RangeFuncBound
import Derived.RangeFuncCalls
import Derived.RangeFuncLeaves
import Derived.RangeFuncBox
import Derived.Shelf.Abstract
import Derived.Shelf.AbstractIn
import Derived.WalkKit
import Derived.OwnWalkIn
import Derived.TacticsInMore
import Derived.LoopNIn
import Derived.LoopIn
import Derived.Test.YtbhcgjahlfpjoaaDoorSetW1
namespace Go.Proofs.YtbhcgjahlfpjoaaDoor
open Go.RowKit Go.Shelf

attribute [local go_sem] Oper.semAt_some

def edCell (p : Rg) : List Value := [.int .i32 p.1, .int .i64 p.2]
def edCells (l : List Rg) : List Value := l.flatMap edCell
theorem edCells_length (l : List Rg) : (edCells l).length = l.length * 2 := by
  induction l with
  | nil => rfl
  | cons a r ih => simp [edCells] at ih ⊢; rw [ih]; simp [edCell]; omega
theorem edCells_one (l : List Rg) : ∀ u ∈ edCells l, u.oneCell' = true := by
  intro u hu
  obtain ⟨p, _, hp⟩ := List.mem_flatMap.1 hu
  simp [edCell] at hp
  rcases hp with rfl | rfl <;> rfl
theorem edCells_append (a b : List Rg) : edCells (a ++ b) = edCells a ++ edCells b := by simp [edCells]
theorem edCells_at : ∀ (l : List Rg) (k : Nat) (p : Rg), l[k]? = some p → (edCells l)[k * 2]? = some (.int .i32 p.1) ∧ (edCells l)[k * 2 + 1]? = some (.int .i64 p.2)
  | [], k, p, h => by cases h
  | a :: r, 0, p, h => by simp at h; subst h; exact ⟨rfl, rfl⟩
  | a :: r, k + 1, p, h => by
    have := edCells_at r k p (by simpa using h)
    have e : ∀ j, (edCells (a :: r))[j + 2]? = (edCells r)[j]? := fun j => by simp [edCells, edCell]
    rw [show (k + 1) * 2 = k * 2 + 2 by omega, show k * 2 + 2 + 1 = (k * 2 + 1) + 2 by omega, e, e]
    exact this

/-- A stretch of runes, with how many ranges are there. -/
abbrev Sp := { x : Rg × Int // (0 ≤ x.1.1 ∧ x.1.1 ≤ x.1.2 ∧ x.1.2 ≤ maxR) ∧ -9223372036854775808 ≤ x.2 ∧ x.2 ≤ 9223372036854775807 }
def spEnc (x : Sp) : Array Value := #[.agg #[.int .i32 x.1.1.1, .int .i32 x.1.1.2], .int .i64 x.1.2]

/-- What a round keeps: all that lay below n₀, and all blocks of edges. -/
def KpE (n₀ : Nat) (W W' : World) : Prop := Below n₀ W W' ∧ ∀ g cs, Blk W g 151 cs → Blk W' g 151 cs
theorem KpE.refl {n₀ : Nat} (W : World) : KpE n₀ W W := ⟨Below.refl _ _, fun _ _ h => h⟩
theorem KpE.trans {n₀ : Nat} {X Y Z : World} (h : KpE n₀ X Y) (h' : KpE n₀ Y Z) : KpE n₀ X Z := ⟨h.1.trans h'.1, fun g cs hb => h'.2 g cs (h.2 g cs hb)⟩
theorem KpE.alloc {n₀ : Nat} {W W' : World} (h : KpE n₀ W W') (hn : n₀ ≤ W'.heap.size) (o : Obj) : KpE n₀ W (W'.alloc o) := ⟨h.1.alloc hn o, fun g cs hb => (h.2 g cs hb).alloc o⟩
theorem KpE.drewN {n₀ n : Nat} {W W' : World} (h : KpE n₀ W W') : KpE n₀ W (W'.drewN n) := ⟨h.1.drewN, fun g cs hb => h.2 g cs hb⟩
theorem KpE.putObj {n₀ : Nat} {w : World} (hn : n₀ ≤ w.heap.size) (W : World) (l : Nat) (o o' : Obj) (hl : w.heap.size ≤ l) (h : W.heap[l]? = some o) (hc : o.isCells = false) (hw : o.isWalk = false) : KpE n₀ W (W.putObj l o') :=
  ⟨belowK_b (w := w) (n₀ := n₀) hn W l o o' hl h hc hw, fun g cs hb => by
    have hne : g ≠ l := by
      rintro rfl
      unfold Blk at hb
      rw [h] at hb
      injection hb with hb
      subst hb
      cases hc
    exact (World.putObj_heap_other hne).trans hb⟩

/-- What an edge is. -/
def EdOK (e : Rg) : Prop := 0 ≤ e.1 ∧ e.1 ≤ maxR + 1 ∧ -1 ≤ e.2 ∧ e.2 ≤ 1

set_option maxRecDepth 100000 in
set_option maxHeartbeats 2000000 in
theorem spans1_in (F : Fence) (n : Nat) (h99 : F.fn 76) (hro : F.round = none) (hn : 1 ≤ n) (l Bs n₀ : Nat) (A : Option Addr) (len cap : Nat) (E : List Rg) (hl : E.length = len) (hlen : len ≤ 4000000) (hE : ∀ e ∈ E, EdOK e)
    (hnil : A = none → len = 0) (J Jx : List Sp → World → Prop)
    (hY : ∀ pre x W, J pre W → pre.length < len + 1 → YieldAt F (n - 1) Tryd.prog l (spEnc x) W fun e W' =>
      (e = .returned (.bool true) ∧ J (pre ++ [x]) W' ∧ KpE n₀ W W') ∨ (e = .returned (.bool false) ∧ Jx (pre ++ [x]) W'))
    (W : World) (hn₀ : n₀ ≤ W.heap.size) (hJ : AbidesFrom W.heap.size J) (hBs : W.cell? ⟨Bs, 0, none⟩ = some (.slice A len cap)) (hR : Rd W 0 n₀ A (edCells E)) (h0 : J [] W) :
    CallsIn F n Tryd.prog 76 #[.func (.yield l) #[] #[], .pointer (some ⟨Bs, 0, none⟩)] W fun e W' => (∃ v, e = .returned v) ∧
      ((∃ ys : List Sp, ys.map (·.1) = spansF 0 0 E ∧ J ys W') ∨ (∃ pre, True ∧ Jx pre W')) := by
  refine callsIn_of_wp Tryd.func76 rfl h99 ?_ hro
  simp only [Tryd.ntmps76, List.size_toArray, List.length_cons, List.length_nil, Nat.reduceAdd, Nat.reduceSub, Array.replicate_succ, Array.replicate_zero, List.push_toArray, List.append_toArray, List.nil_append, List.cons_append]
  gi_wp2
  gi_loopw [3, 4, 9] (fun fv nv i wr => ∃ (k : Nat) (f c : Int) (pre : List Sp), k ≤ len ∧ i = .int .i64 (k : Int) ∧ fv = .int .i32 f ∧ nv = .int .i64 c ∧ (0 ≤ f ∧ f ≤ maxR + 1) ∧ (-(k : Int) ≤ c ∧ c ≤ (k : Int)) ∧
      pre.length ≤ k ∧ pre.map (·.1) ++ spansF f c (E.drop k) = spansF 0 0 E ∧ J pre wr ∧ Below n₀ W wr)
    (fun _ _ i _ => len - (intOf i).toNat)
  case atStart => exact ⟨0, 0, 0, [], Nat.zero_le _, rfl, rfl, rfl, by decide, by decide, Nat.le_refl _, rfl, h0, Below.refl _ _⟩
  case round =>
    obtain ⟨k, f, c, pre, hk, rfl, rfl, rfl, hf, hc, hpre, hsp, hJs, hB⟩ := hrel
    by_cases hlt : k < len
    · obtain ⟨b, o, rfl, _, hb, hcells⟩ := hR (by rw [edCells_length]; omega)
      have hp : E[k]? = some E[k] := List.getElem?_eq_getElem (by omega)
      have he : EdOK E[k] := hE _ (List.getElem_mem _)
      obtain ⟨c1, c2⟩ := edCells_at E k _ hp
      generalize E[k] = e at hp he c1 c2
      have d1 := (hB.cell (p := ⟨b, o + k * 2, none⟩) hb).trans (hcells _ _ c1)
      have d2 := (hB.cell (p := ⟨b, o + k * 2 + 1, none⟩) hb).trans (hcells _ _ c2)
      obtain ⟨e1, e2, e3, e4⟩ := he
      have hd : E.drop k = e :: E.drop (k + 1) := by
        rw [List.drop_eq_getElem_cons (by omega)]
        rw [List.getElem?_eq_getElem (by omega)] at hp
        injection hp with hp
        rw [hp]
      rw [hd] at hsp
      clear hd hp c1 c2 hcells hE
      unfold maxR at hf e2
      have hki : (k : Int) < (len : Int) := by omega
      have hgr := World.grownBy_alloc wr (.cells #[.int .i32 e.1, .int .i64 e.2] 151) none
      have hJ1 := hJ _ _ _ none hJs hgr (fun r e => by cases e)
      have hBk := Blk.new wr 151 #[.int .i32 e.1, .int .i64 e.2]
      have hB1 : Below n₀ W (wr.alloc (.cells #[.int .i32 e.1, .int .i64 e.2] 151)) := hB.alloc (Nat.le_trans hn₀ hB.size) _
      by_cases hfe : f < e.1
      · obtain ⟨fn, tmps, assign, body, hy, hR⟩ := hY pre ⟨((f, e.1 - 1), c), ⟨by dsimp only; omega, by dsimp only; omega, by unfold maxR; dsimp only; omega⟩, by dsimp only; omega, by dsimp only; omega⟩ _ hJ1 (by omega)
        simp only [spEnc] at hy
        gi_wp2
        refine hR.mono ?_
        rintro e' W3 (⟨rfl, hJ3, hk3⟩ | ⟨rfl, hJx3⟩)
        · have hb3 := hk3.2 _ _ hBk
          have x1 := hb3.cell 0
          have x2 := hb3.cell 1
          simp only [List.getElem?_toArray, List.getElem?_cons_zero, List.getElem?_cons_succ] at x1 x2
          clear hR hy hY
          gi_wp2
          go_roundw
          case rel =>
            refine ⟨k + 1, e.1, c + e.2, _, by omega, by go_num, rfl, by go_num, by unfold maxR; omega, by omega, by simp; omega, ?_, hJ3, hB1.trans hk3.1⟩
            rw [← hsp, spansF, if_pos hfe, if_pos hfe]
            simp
          case measure => simp [intOf]; omega
        · clear hY
          gi_wp2
          refine bodyPost_ret (results_none rfl _ _ _) rfl ?_
          exact ⟨⟨_, rfl⟩, .inr ⟨_, trivial, hJx3⟩⟩
      · have x1 := hBk.cell 0
        have x2 := hBk.cell 1
        simp only [List.getElem?_toArray, List.getElem?_cons_zero, List.getElem?_cons_succ] at x1 x2
        clear hY
        gi_wp2
        go_roundw
        case rel =>
          refine ⟨k + 1, f, c + e.2, pre, by omega, by go_num, rfl, by go_num, by unfold maxR; omega, by omega, by omega, ?_, hJ1, hB1⟩
          rw [← hsp, spansF, if_neg hfe, if_neg hfe]
          simp
        case measure => simp [intOf]; omega
    · obtain rfl : k = len := by omega
      rw [List.drop_eq_nil_of_le (by omega), spansF] at hsp
      unfold maxR at hf hsp
      by_cases hfm : f ≤ 1114111
      · obtain ⟨fn, tmps, assign, body, hy, hR⟩ := hY pre ⟨((f, maxR), c), ⟨by dsimp only; omega, hfm, Int.le_refl _⟩, by dsimp only; omega, by dsimp only; omega⟩ _ hJs (by omega)
        simp only [spEnc, maxR] at hy
        gi_wp2
        refine hR.mono ?_
        rw [if_pos hfm] at hsp
        rintro e' W3 (⟨rfl, hJ3, hk3⟩ | ⟨rfl, hJx3⟩)
        · clear hR hy hY
          gi_wp2
          go_end0
          exact ⟨⟨_, rfl⟩, .inl ⟨_, by rw [← hsp, List.map_append]; rfl, hJ3⟩⟩
        · clear hR hy hY
          gi_wp2
          go_end0
          exact ⟨⟨_, rfl⟩, .inr ⟨_, trivial, hJx3⟩⟩
      · rw [if_neg hfm] at hsp
        clear hY
        gi_wp2
        go_end0
        exact ⟨⟨_, rfl⟩, .inl ⟨_, by rw [← hsp]; simp, hJs⟩⟩

set_option maxHeartbeats 1000000 in
theorem spans_in (F : Fence) (n : Nat) (h82 : F.fn 72) (hro : F.round = none) (A : Option Addr) (len cap : Nat) (w : World) :
    CallsIn F n Tryd.prog 72 #[.slice A len cap] w fun e w' => e = .returned (.func (.func 76) #[] #[.pointer (some ⟨w.heap.size, 0, none⟩)]) ∧ w' = w.alloc (.cells #[.slice A len cap] 144) := by
  refine callsIn_of_wp Tryd.func72 rfl h82 ?_ hro
  simp only [Tryd.ntmps72, List.size_toArray, List.length_cons, List.length_nil, Nat.reduceAdd, Nat.reduceSub, Array.replicate_succ, Array.replicate_zero, List.push_toArray, List.append_toArray, List.nil_append, List.cons_append]
  gi_wp2
  go_ret
  exact ⟨rfl, rfl⟩

theorem spans_stops (F : Fence) (n : Nat) (h99 : F.fn 76) (hro : F.round = none) (hn : 1 ≤ n) (Bs n₀ : Nat) (A : Option Addr) (len cap : Nat) (E : List Rg) (hl : E.length = len) (hlen : len ≤ 4000000) (hE : ∀ e ∈ E, EdOK e)
    (hnil : A = none → len = 0) (w : World) (hBs : Bs < w.heap.size) (hn₀ : n₀ ≤ w.heap.size) (hc : w.cell? ⟨Bs, 0, none⟩ = some (.slice A len cap)) (hR : Rd w 0 n₀ A (edCells E)) :
    SeqStopsK F n Tryd.prog 76 #[.pointer (some ⟨Bs, 0, none⟩)] spEnc (KpE n₀) (fun ys : List Sp => ys.map (·.1) = spansF 0 0 E) (fun _ => True) (len + 1) w := fun l J Jx W hW hJ _ hY h0 =>
  spans1_in F n h99 hro hn l Bs n₀ A len cap E hl hlen hE hnil J Jx hY W (Nat.le_trans hn₀ hW.size) hJ ((hW.cell (p := ⟨Bs, 0, none⟩) hBs).trans hc) (hR.same (.of_below hW hn₀)) h0
end Go.Proofs.YtbhcgjahlfpjoaaDoor
