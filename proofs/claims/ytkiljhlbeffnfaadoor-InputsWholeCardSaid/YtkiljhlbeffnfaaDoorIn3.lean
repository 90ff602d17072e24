/- The place of an offset: the binary search. -/
import Derived.Test.YtkiljhlbeffnfaaDoorIn2
namespace Go.Proofs.YtkiljhlbeffnfaaDoor
open Go.RowKit

def foundAt (l : List (Int × Nat)) (L : Nat) (off : Int) : Bool := match l[L]? with | some p => (p.2 : Int) == off | none => false
theorem retTB {v : Value} {a b : Bool} (h : a = b) : Ending.returned (.tuple #[v, .bool a]) = .returned (.tuple #[v, .bool b]) := by rw [h]
theorem foundAt_some {l : List (Int × Nat)} {a : Nat} {off : Int} {p : Int × Nat} (h : l[a]? = some p) : ((p.2 : Int) - off == 0) = foundAt l a off := by
  simp only [foundAt, h]; rw [Bool.eq_iff_iff, beq_iff_eq, beq_iff_eq]; omega
theorem foundAt_none {l : List (Int × Nat)} {a : Nat} {off : Int} (h : l[a]? = none) : false = foundAt l a off := by simp [foundAt, h]

theorem cmp_any (c : Int) (o off : Int) (w : World) (h1 : 0 ≤ o) (h2 : o ≤ 1152921504606846976) (h3 : -1152921504606846976 ≤ off) (h4 : off ≤ 1152921504606846976) :
    Calls Tryd.prog 33 #[.agg #[.int .i32 c, .int .i64 o], .int .i64 off] w fun e w' => e = .returned (.int .i64 (o - off)) ∧ Below w.heap.size w w' := by
  go_enter Tryd.func33, Tryd.ntmps33
  go_wp2
  go_ret
  exact ⟨rfl, (Below.refl _ _).alloc (Nat.le_refl _) _⟩

set_option maxHeartbeats 1000000 in
theorem search_any {w : World} {lo U : Nat} {A : Option Addr} {l : List (Int × Nat)} {c : Nat} (hR : Rd w lo U A (symCells l)) (hU : U ≤ w.heap.size) (off : Int) (L : Nat) (hL : L ≤ l.length)
    (hlb : ∀ (k : Nat) (p : Int × Nat), l[k]? = some p → ((p.2 : Int) < off ↔ k < L)) (hn : l.length ≤ 1152921504606846976) (hbig : ∀ p ∈ l, p.2 ≤ 1152921504606846976)
    (h3 : -1152921504606846976 ≤ off) (h4 : off ≤ 1152921504606846976) :
    Calls Tryd.prog 32 #[.slice A l.length c, .int .i64 off, .func (.func 33) #[] #[]] w fun e w' =>
      e = .returned (.tuple #[.int .i64 L, .bool (foundAt l L off)]) ∧ Below w.heap.size w w' := by
  rcases Nat.eq_zero_or_pos l.length with h0 | h0
  · obtain rfl : l = [] := List.eq_nil_of_length_eq_zero h0
    obtain rfl : L = 0 := by simpa using hL
    simp only [List.length_nil]
    have hfa : foundAt [] 0 off = false := rfl
    rw [hfa]
    clear hfa
    clear hR hlb hbig
    go_enter Tryd.func32, Tryd.ntmps32
    go_wp2_with fail
    go_loopg [9, 10] 1 (fun n i j wr => i = .int .i64 0 ∧ j = .int .i64 0 ∧ w = wr)
    case atStart => exact ⟨rfl, rfl, rfl⟩
    case round =>
      obtain ⟨rfl, rfl, rfl⟩ := hrel
      go_wp2_with fail
      go_ret2
      exact ⟨rfl, Below.refl _ _⟩
  obtain ⟨b', o', rfl, _, hbU, hcell⟩ := hR (by rw [symCells_length]; omega)
  go_enter Tryd.func32, Tryd.ntmps32
  go_wp2_with fail
  go_loopg [9, 10] (l.length + 1) (fun n i j wr => ∃ a b : Nat, i = .int .i64 a ∧ j = .int .i64 b ∧ a ≤ L ∧ L ≤ b ∧ b ≤ l.length ∧ n = b - a + 1 ∧ Below w.heap.size w wr)
  case atStart => exact ⟨0, l.length, rfl, rfl, by omega, hL, by omega, by omega, Below.refl _ _⟩
  case round =>
    obtain ⟨a, b, rfl, rfl, ha, hb, hbn, hgk, hbel⟩ := hrel
    have hc : ∀ k p, l[k]? = some p → wr.cell? ⟨b', o' + k * 2, none⟩ = some (.int .i32 p.1) ∧ wr.cell? ⟨b', o' + k * 2 + 1, none⟩ = some (.int .i64 (p.2 : Int)) := fun k p hp => by
      have := symCells_at l k p hp
      exact ⟨(hbel.cell (p := ⟨b', _, none⟩) (by simp; omega)).trans (hcell _ _ this.1), (hbel.cell (p := ⟨b', _, none⟩) (by simp; omega)).trans (hcell _ _ this.2)⟩
    by_cases hlt : a < b
    · obtain ⟨p, hp⟩ : ∃ p, l[(a + b) / 2]? = some p := ⟨_, List.getElem?_eq_getElem (by omega)⟩
      obtain ⟨c1, c2⟩ := hc _ _ hp
      have hpb := hbig p (List.mem_of_getElem? hp)
      have hiff := hlb _ _ hp
      have HC := Lib.hid hcell
      have HG := Lib.hid hgk
      have HI := Lib.hid hiff
      have HB := Lib.hid hbel
      clear hcell hc hp hlb hbig hiff hgk hbel
      go_wp2_with (go_at_call 33; refine (cmp_any _ _ _ _ (by omega) (by omega) h3 h4).mono ?_; rintro e w' ⟨rfl, hb2⟩)
      · rename_i hq _
        go_roundg (b - ((a + b) / 2 + 1) + 1)
        case measure => have := HG.out; omega
        case rel => exact ⟨(a + b) / 2 + 1, b, by go_num, rfl, by have := HI.out; omega, hb, hbn, rfl, HB.out.trans (hb2.mono HB.out.size)⟩
      · go_roundg ((a + b) / 2 - a + 1)
        case measure => have := HG.out; omega
        case rel => exact ⟨a, (a + b) / 2, rfl, by go_num, ha, by have := HI.out; omega, by omega, rfl, HB.out.trans (hb2.mono HB.out.size)⟩
    · obtain rfl : a = L := by omega
      by_cases hlt2 : a < l.length
      · obtain ⟨p, hp⟩ : ∃ p, l[a]? = some p := ⟨_, List.getElem?_eq_getElem (by omega)⟩
        obtain ⟨c1, c2⟩ := hc _ _ hp
        have hpb := hbig p (List.mem_of_getElem? hp)
        have HP := Lib.hid hp
        have HB := Lib.hid hbel
        clear hcell hc hp hlb hbig hgk hbel
        go_wp2_with (go_at_call 33; refine (cmp_any _ _ _ _ (by omega) (by omega) h3 h4).mono ?_; rintro e w' ⟨rfl, hb2⟩)
        go_ret2
        exact ⟨retTB (foundAt_some HP.out), HB.out.trans (hb2.mono HB.out.size)⟩
      · have hno : l[a]? = none := List.getElem?_eq_none (by omega)
        have HP := Lib.hid hno
        have HB := Lib.hid hbel
        clear hcell hc hlb hbig hgk hbel hno
        go_wp2_with fail
        go_ret2
        exact ⟨retTB (foundAt_none HP.out), HB.out⟩

/-- The place of an offset: of l's (rising) offsets. -/
def placeOf (l : List (Int × Nat)) (off : Int) : Int := if off < 0 then -1 else placeFrom (l.map fun p => (p.2 : Int)) off

def Rising (l : List (Int × Nat)) : Prop := l.Pairwise fun p q => p.2 < q.2

theorem rising_lt {l : List (Int × Nat)} (h : Rising l) {i j : Nat} {p q : Int × Nat} (hi : l[i]? = some p) (hj : l[j]? = some q) (hij : i < j) : p.2 < q.2 := by
  obtain ⟨hi', rfl⟩ := List.getElem?_eq_some_iff.1 hi
  obtain ⟨hj', rfl⟩ := List.getElem?_eq_some_iff.1 hj
  exact List.pairwise_iff_getElem.1 h i j hi' hj' hij

/-- How many offsets lie below. -/
def lbOf (l : List (Int × Nat)) (off : Int) : Nat := (l.filter fun p => decide ((p.2 : Int) < off)).length
theorem lbOf_le (l : List (Int × Nat)) (off : Int) : lbOf l off ≤ l.length := List.length_filter_le _ _
theorem lbOf_iff {l : List (Int × Nat)} (h : Rising l) (off : Int) : ∀ (k : Nat) (p : Int × Nat), l[k]? = some p → ((p.2 : Int) < off ↔ k < lbOf l off) := by
  induction l with
  | nil => intro k p hp; simp at hp
  | cons q l ih =>
    intro k p hp
    have hr : Rising l := (List.pairwise_cons.1 h).2
    have hq := (List.pairwise_cons.1 h).1
    by_cases c : (q.2 : Int) < off
    · have e : lbOf (q :: l) off = lbOf l off + 1 := by simp [lbOf, List.filter_cons, c]
      rw [e]
      cases k with
      | zero => simp at hp; subst hp; constructor <;> intro _ <;> omega
      | succ k => simp at hp; rw [ih hr k p hp]; omega
    · have e : lbOf (q :: l) off = 0 := by
        simp only [lbOf, List.filter_cons, c, decide_false, Bool.false_eq_true, if_false]
        rw [List.length_eq_zero_iff, List.filter_eq_nil_iff]
        intro x hx
        have := hq x hx
        simp; omega
      rw [e]
      have : q.2 ≤ p.2 := by
        cases k with
        | zero => simp at hp; subst hp; exact Nat.le_refl _
        | succ k => simp at hp; exact Nat.le_of_lt (hq p (List.mem_of_getElem? hp))
      omega
theorem placeOf_eq {l : List (Int × Nat)} (h : Rising l) (off : Int) : placeOf l off = if off < 0 ∨ foundAt l (lbOf l off) off = false then -1 else (lbOf l off : Int) := by
  unfold placeOf
  by_cases h0 : off < 0
  · simp [h0]
  · simp only [h0, if_false, false_or]
    have hiff := lbOf_iff h off
    unfold foundAt placeFrom
    cases hp : l[lbOf l off]? with
    | none =>
      simp only [if_true]
      have : (l.map fun p => (p.2 : Int)).findIdx? (· == off) = none := by
        rw [List.findIdx?_eq_none_iff]
        intro x hx
        obtain ⟨q, hq, rfl⟩ := List.mem_map.1 hx
        obtain ⟨k, hk, rfl⟩ := List.getElem_of_mem hq
        have h1 := (hiff k l[k] (List.getElem?_eq_getElem hk)).2 (by have := List.getElem?_eq_none_iff.1 hp; omega)
        simp; omega
      simp [this]
    | some p =>
      obtain ⟨hlt, hpe⟩ := List.getElem?_eq_some_iff.1 hp
      by_cases he : (p.2 : Int) = off
      · have : (l.map fun p => (p.2 : Int)).findIdx? (· == off) = some (lbOf l off) := by
          rw [List.findIdx?_eq_some_iff_getElem]
          refine ⟨by simpa using hlt, by simp [hpe, he], fun j hj => ?_⟩
          have h1 := (hiff j l[j] (List.getElem?_eq_getElem (by omega))).2 hj
          simp; omega
        simp [this, he]
      · have : (l.map fun p => (p.2 : Int)).findIdx? (· == off) = none := by
          rw [List.findIdx?_eq_none_iff]
          intro x hx
          obtain ⟨q, hq, rfl⟩ := List.mem_map.1 hx
          obtain ⟨k, hk, rfl⟩ := List.getElem_of_mem hq
          have h1 := hiff k l[k] (List.getElem?_eq_getElem hk)
          rcases Nat.lt_trichotomy k (lbOf l off) with h2 | h2 | h2
          · have := h1.2 h2; simp; omega
          · have : l[k] = p := by subst hpe; simp [h2]
            rw [this]; simpa using he
          · have h3 := rising_lt h hp (List.getElem?_eq_getElem hk) h2
            have h4 : ¬ ((p.2 : Int) < off) := fun h => by have := (hiff _ p hp).1 h; omega
            simp; omega
        simp [this, he]

set_option maxHeartbeats 400000 in
theorem place_any {w : World} {lo U g : Nat} {l : List (Int × Nat)} {s : List UInt8} (h : SymsAt w lo U g l s) (hU : U ≤ w.heap.size) (hr : Rising l) (hn : l.length ≤ 1152921504606846976) (hbig : ∀ p ∈ l, p.2 ≤ 1152921504606846976)
    (off : Int) (h3 : -1152921504606846976 ≤ off) (h4 : off ≤ 1152921504606846976) :
    Calls Tryd.prog 21 #[.pointer (some ⟨g, 0, none⟩), .int .i64 off] w fun e w' => e = .returned (.int .i64 (placeOf l off)) ∧ Below w.heap.size w w' := by
  have hpl := placeOf_eq hr off
  obtain ⟨_, _, A, c, T, tc, hc, _, hA, _, _, _, _, _⟩ := h
  have cS := search_any (c := c) hA hU off (lbOf l off) (lbOf_le _ _) (lbOf_iff hr off) hn hbig h3 h4
  rw [hpl]
  clear hpl hbig hr hA
  generalize foundAt l (lbOf l off) off = f at cS ⊢
  by_cases h0 : off < 0
  · rw [if_pos (.inl h0)]
    go_enter Tryd.func21, Tryd.ntmps21
    go_wp2_with (go_at_call 32; refine cS.mono ?_; rintro e w' ⟨rfl, hb⟩)
    go_ret
    exact ⟨rfl, hb⟩
  · cases f
    · rw [if_pos (.inr rfl)]
      go_enter Tryd.func21, Tryd.ntmps21
      go_wp2_with (go_at_call 32; refine cS.mono ?_; rintro e w' ⟨rfl, hb⟩)
      go_ret
      exact ⟨rfl, hb⟩
    · rw [if_neg (by simp [h0])]
      go_enter Tryd.func21, Tryd.ntmps21
      go_wp2_with (go_at_call 32; refine cS.mono ?_; rintro e w' ⟨rfl, hb⟩)
      go_ret
      exact ⟨rfl, hb⟩
end Go.Proofs.YtkiljhlbeffnfaaDoor
