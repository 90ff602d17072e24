/- edges are sorted: the library's sort at them. -/
import Derived.Shelf.SlSortCmp.NoneTotal
import Derived.Test.YtbhcgjahlfpjoaaDoorShelfR2
import Derived.Test.YtbhcgjahlfpjoaaDoorSpW1
namespace Go.Proofs.YtbhcgjahlfpjoaaDoor
open Go.RowKit Go.Shelf Go.Sort Go.Lib

set_option maxHeartbeats 1000000 in
theorem isNaN_any (x : Int) (w : World) : Calls Tryd.prog 79 #[.int .i32 x] w fun e w' => e = .returned (.bool false) ∧ w' = w := by
  go_enter Tryd.func79, Tryd.ntmps79
  go_wp2
  go_ret
  exact ⟨by simp, rfl⟩

set_option maxHeartbeats 1000000 in
theorem cmpI_any (x y : Int) (w : World) : Calls Tryd.prog 75 #[.int .i32 x, .int .i32 y] w fun e w' => e = .returned (.int .i64 (Lib.compareInt x y)) ∧ w' = w := by
  go_enter Tryd.func75, Tryd.ntmps75
  go_wp2_with (go_at_call 79; refine (isNaN_any _ _).mono ?_; rintro e w' ⟨rfl, hw⟩; rw [hw])
  all_goals (go_ret; refine ⟨?_, rfl⟩; unfold Lib.compareInt; (repeat' split) <;> first | rfl | (exfalso; omega))

set_option maxHeartbeats 1000000 in
theorem edCmp_any (x y : Rg) (W : World) : Calls Tryd.prog 74 #[.agg (edCell x).toArray, .agg (edCell y).toArray] W fun e w' => e = .returned (.int .i64 (Lib.compareInt x.1 y.1)) ∧ ∃ q os', w' = grow (W.drewN q) os' := by
  have hcon := fun W' => cmpI_any x.1 y.1 W'
  simp only [edCell]
  generalize Lib.compareInt x.1 y.1 = r at hcon ⊢
  go_enter Tryd.func74, Tryd.ntmps74
  go_wp2_with (go_at_call 75; refine (hcon _).mono ?_; rintro e w' ⟨rfl, rfl⟩)
  go_ret
  exact ⟨rfl, 0, _, by rw [alloc_eq_grow, alloc_eq_grow, grow_grow]; rfl⟩

theorem edLt (x y : Rg) : ltOf (fun x y : Rg => Lib.compareInt x.1 y.1) x y = decide (x.1 < y.1) := by
  unfold ltOf Lib.compareInt
  by_cases h1 : x.1 < y.1
  · simp [h1]
  · by_cases h2 : y.1 < x.1 <;> simp [h1, h2]
theorem edSWO : SWO (ltOf fun x y : Rg => Lib.compareInt x.1 y.1) where
  irrefl x := by rw [edLt]; simp
  trans x y z h1 h2 := by rw [edLt] at *; simp at *; omega
  ntrans x y z h1 h2 := by rw [edLt] at *; simp at *; omega

theorem flat_get (d : List Rg) (t : Nat) (ht : t < d.length * 2) : (flatK edCell 2 d.toArray)[t]? = (edCells d)[t]? := by
  rw [Array.getElem?_eq_getElem (by simpa using ht)]
  have h1 := get_flatK edCell 2 d.toArray t (by simpa using ht)
  rw [getElem!_pos _ t (by simpa using ht)] at h1
  rw [h1]
  have hp : d[t / 2]? = some d[t / 2] := List.getElem?_eq_getElem (by omega)
  have h2 : d.toArray[t / 2]! = d[t / 2] := by rw [getElem!_pos _ _ (by simp; omega)]; rfl
  obtain ⟨u1, u2⟩ := edCells_at d (t / 2) _ hp
  rw [h2]
  rcases Nat.mod_two_eq_zero_or_one t with h | h
  · rw [h]
    have e : t = t / 2 * 2 := by omega
    rw [show (edCells d)[t]? = (edCells d)[t / 2 * 2]? by rw [← e], u1]; rfl
  · rw [h]
    have e : t = t / 2 * 2 + 1 := by omega
    rw [show (edCells d)[t]? = (edCells d)[t / 2 * 2 + 1]? by rw [← e], u2]; rfl

theorem sortEd_any {w : World} {base : Nat} {B : Option Addr} {n c : Nat} {E : List Rg} (h : w.ownsRow base 151 2 (.slice B n c) n (edCells E)) (hn : n ≤ 4000000) :
    Calls Tryd.prog 73 #[.slice B n c, .func (.func 74) #[] #[]] w fun e w' => e = .returned (.tuple #[]) ∧
      ∃ E' : List Rg, E.Perm E' ∧ E'.Pairwise (fun a b => a.1 ≤ b.1) ∧ w'.ownsRow base 151 2 (.slice B n c) n (edCells E') ∧ Below base w w' := by
  have hl : E.length = n := by have := h.1; rw [edCells_length] at this; omega
  rcases Nat.eq_zero_or_pos n with h0 | h0
  · subst h0
    have hcon := AnyF.slices_SortFunc_none { Tryd.sortEd with } B c (.func (.func 74) #[] #[]) w
    change Calls Tryd.prog 73 _ _ _ at hcon
    refine hcon.mono ?_
    rintro e w' ⟨rfl, rfl⟩
    obtain rfl := List.eq_nil_of_length_eq_zero hl
    exact ⟨rfl, [], List.Perm.refl _, List.Pairwise.nil, h, Below.refl _ _⟩
  · obtain ⟨g, cap, hv, hgb, hgl⟩ := h.form h0
    injection hv with hv1 _ hv2
    subst hv1; subst hv2
    obtain ⟨cur, hg, _, h3, h4, h1, h2⟩ := own_blk h
    have hH : HoldsK edCell 2 w g 0 E.toArray := by
      intro j hj
      have hj' : j < E.length * 2 := by simpa using hj
      refine ⟨?_, hg.frozen _⟩
      rw [hg.cell, Nat.zero_add, getElem!_pos _ j hj]
      have e1 := flat_get E j hj'
      rw [Array.getElem?_eq_getElem hj, ← h4, List.getElem?_take, if_pos (by omega), Array.getElem?_toList] at e1
      exact e1.symm
    have eg : ∀ args w, (callFunc 74 args).run Tryd.prog w = .ok (.enter 74 args) w := enters_of Tryd.func74 (by kernel_rfl) rfl
    have hcon := AnyQ.slices_SortFunc Tryd.sortEd 2 Tryd.isAgg151 Tryd.sizeOf151 edCell (fun _ => rfl) (fun x v hv => by simp [edCell] at hv; rcases hv with rfl | rfl <;> rfl) (fun x y => Lib.compareInt x.1 y.1) edSWO 74 #[] g 0 c E.toArray w eg
      (fun _ _ _ _ x y => edCmp_any x y _) hH hgl (by unfold maxLen at h2; simp; omega)
    change Calls Tryd.prog 73 _ _ _ at hcon
    rw [show E.toArray.size = n by simpa using hl] at hcon
    refine hcon.mono ?_
    rintro e w' ⟨rfl, d', q, os, ⟨hp1, _, hp2⟩, hs, rfl⟩
    have hz : d'.size = n := by rw [hp1]; simpa using hl
    rw [show E.toArray.extract 0 n = E.toArray by rw [← hl]; exact Array.extract_size, show d'.extract 0 n = d' by rw [← hz]; exact Array.extract_size] at hp2
    have hdl : d'.toList.length = n := by simpa using hz
    refine ⟨rfl, d'.toList, hp2.symm, ?_, ?_, ?_⟩
    · rw [List.pairwise_iff_getElem]
      intro i j hi hj hij
      have := hs i j (Nat.zero_le _) hij (by omega)
      rw [edLt, getElem!_pos _ j (by omega), getElem!_pos _ i (by omega)] at this
      have := of_decide_eq_false this
      simp only [Array.getElem_toList]
      omega
    · have hb' : Blk (sortWorldK edCell 2 w g 0 q d' os) g 151 (putCells id 0 (flatK edCell 2 d') cur) := by
        unfold Blk at hg ⊢
        unfold sortWorldK grow putRowK putRow mapBlock Sort.ahead
        dsimp only
        rw [Array.getElem?_append_left (by simpa using hgl), Array.getElem?_modify, if_pos rfl, hg]
        rfl
      refine ⟨by rw [edCells_length, hdl], .inr ⟨g, c, _, rfl, hgb, hb', h1, h2, by simpa [putCells] using h3, ?_⟩⟩
      apply List.ext_getElem?
      intro t
      rw [List.getElem?_take]
      by_cases ht : t < n * 2
      · rw [if_pos ht, Array.getElem?_toList]
        have hf := flat_get d'.toList t (by omega)
        rw [Array.toArray_toList] at hf
        rw [← hf]
        have htc : t < cur.size := by
          have : n * 2 ≤ c * 2 := Nat.mul_le_mul_right _ h1
          omega
        simp only [putCells, Array.getElem?_mapIdx, Array.getElem?_eq_getElem htc, Option.map_some]
        rw [if_pos (by simp; omega), Array.getElem?_eq_getElem (by simp; omega), getElem!_pos _ _ (by simp; omega)]
        rfl
      · rw [if_neg ht, List.getElem?_eq_none (by rw [edCells_length]; omega)]
    · refine ⟨rfl, rfl, rfl, ?_, fun k hk => ?_⟩
      · simp [sortWorldK, grow, putRowK, putRow, mapBlock, Sort.ahead]
      · unfold sortWorldK grow putRowK putRow mapBlock Sort.ahead
        dsimp only
        rw [Array.getElem?_append_left (by simp; omega), Array.getElem?_modify, if_neg (by omega)]
end Go.Proofs.YtbhcgjahlfpjoaaDoor
