/- The accessors of the reference's input. -/
import Derived.Test.YtkiljhlbeffnfaaDoorIn1
import Derived.Deep.LoopGhost
namespace Go.Proofs.YtkiljhlbeffnfaaDoor
open Go.RowKit

/-- The runes with places, and the end. -/
def full (m : List (Int × Nat)) (e : Nat) : List (Int × Nat) := m ++ [(-1, e)]

def i32s (l : List Int) : List Value := l.map (Value.int .i32)
def i64s (l : List Int) : List Value := l.map (Value.int .i64)
def offsOf (m : List (Int × Nat)) (e : Nat) : List Int := (full m e).map fun p => (p.2 : Int)

theorem i32s_at {l : List Int} {k : Nat} {x : Int} (h : l[k]? = some x) : (i32s l)[k]? = some (.int .i32 x) := by simp [i32s, h]
theorem i64s_at {l : List Int} {k : Nat} {x : Int} (h : l[k]? = some x) : (i64s l)[k]? = some (.int .i64 x) := by simp [i64s, h]
theorem full_length (m : List (Int × Nat)) (e : Nat) : (full m e).length = m.length + 1 := by simp [full]
theorem offsOf_length (m : List (Int × Nat)) (e : Nat) : (offsOf m e).length = m.length + 1 := by simp [offsOf, full]
theorem offsOf_at (m : List (Int × Nat)) (e : Nat) (k : Nat) (h : k < m.length + 1) : (offsOf m e)[k]? = some (offAt (full m e) (k : Int)) := by
  have hk : k < (full m e).length := by rw [full_length]; omega
  simp [offsOf, offAt, List.getElem?_eq_getElem hk, show ¬ ((k : Int) < 0) by omega]
theorem runes_at (m : List (Int × Nat)) (e : Nat) (k : Nat) (h : k < m.length) : (m.map (·.1))[k]? = some (runeAt (full m e) (k : Int)) := by
  simp [runeAt, full, List.getElem?_append_left h, List.getElem?_eq_getElem h, show ¬ ((k : Int) < 0) by omega]
theorem runeAt_out (m : List (Int × Nat)) (e : Nat) (i : Int) (h : i < 0 ∨ (m.length : Int) ≤ i) : runeAt (full m e) i = -1 := by
  unfold runeAt
  by_cases hi : i < 0
  · simp [hi]
  · obtain ⟨k, rfl⟩ := Int.eq_ofNat_of_zero_le (by omega : 0 ≤ i)
    rw [if_neg hi]
    simp only [Int.toNat_natCast]
    rcases Nat.lt_or_ge k (m.length + 1) with hk | hk
    · have : k = m.length := by omega
      subst this
      simp [full]
    · rw [List.getElem?_eq_none (by rw [full_length]; omega)]
theorem offAt_out (m : List (Int × Nat)) (e : Nat) (i : Int) (h : i < 0 ∨ (m.length : Int) + 1 ≤ i) : offAt (full m e) i = -1 := by
  unfold offAt
  by_cases hi : i < 0
  · simp [hi]
  · obtain ⟨k, rfl⟩ := Int.eq_ofNat_of_zero_le (by omega : 0 ≤ i)
    rw [if_neg hi]
    simp only [Int.toNat_natCast]
    rw [List.getElem?_eq_none (by rw [full_length]; omega)]

/-- A block holds the reference's input. -/
def RefAt (w : World) (lo U g : Nat) (m : List (Int × Nat)) (e : Nat) (s : List UInt8) : Prop :=
  lo ≤ g ∧ g < U ∧ ∃ B bc R rc O oc, w.cell? ⟨g, 1, none⟩ = some (.slice B s.length bc) ∧ w.cell? ⟨g, 2, none⟩ = some (.slice R m.length rc) ∧ w.cell? ⟨g, 3, none⟩ = some (.slice O (m.length + 1) oc) ∧
    Rd w lo U B (byteVals s) ∧ Rd w lo U R (i32s (m.map (·.1))) ∧ Rd w lo U O (i64s (offsOf m e)) ∧ s.length ≤ bc ∧ bc ≤ maxLen ∧ m.length + 1 ≤ oc ∧ oc ≤ maxLen
theorem RefAt.same {w w' : World} {lo U g : Nat} {m : List (Int × Nat)} {e : Nat} {s : List UInt8} (h : RefAt w lo U g m e s) (hs : Same lo U w w') : RefAt w' lo U g m e s := by
  obtain ⟨h1, h2, B, bc, R, rc, O, oc, a, b, c, d, f, k, r⟩ := h
  exact ⟨h1, h2, B, bc, R, rc, O, oc, (hs.cell (p := ⟨g, 1, none⟩) h1 h2).trans a, (hs.cell (p := ⟨g, 2, none⟩) h1 h2).trans b, (hs.cell (p := ⟨g, 3, none⟩) h1 h2).trans c, d.same hs, f.same hs, k.same hs, r⟩
theorem RefAt.drewN {w : World} {lo U g : Nat} {m : List (Int × Nat)} {e : Nat} {s : List UInt8} (h : RefAt w lo U g m e s) (n : Nat) : RefAt (w.drewN n) lo U g m e s := h.same ((Same.refl _ _ _).drewN n)

section
variable {w : World} {lo U g : Nat} {m : List (Int × Nat)} {e : Nat} {s : List UInt8}
theorem refLen_any (h : RefAt w lo U g m e s) : Calls Tryd.prog 16 #[.pointer (some ⟨g, 0, none⟩)] w fun e' w' => e' = .returned (.int .i64 (m.length : Int)) ∧ w = w' := by
  obtain ⟨_, _, B, bc, R, rc, O, oc, a, b, c, _, _, _, _, _, h1, h2⟩ := h
  unfold maxLen at h2
  go_enter Tryd.func16, Tryd.ntmps16
  go_wp2
  go_ret
  exact ⟨rfl, rfl⟩

theorem refRune_any (h : RefAt w lo U g m e s) (i : Int) : Calls Tryd.prog 18 #[.pointer (some ⟨g, 0, none⟩), .int .i64 i] w fun e' w' => e' = .returned (.int .i32 (runeAt (full m e) i)) ∧ w = w' := by
  obtain ⟨_, _, B, bc, R, rc, O, oc, a, b, c, _, hR, _, _, _, h1, h2⟩ := h
  unfold maxLen at h2
  by_cases hi : i < 0
  · rw [runeAt_out m e i (.inl hi)]
    go_enter Tryd.func18, Tryd.ntmps18
    go_wp2
    go_ret
    exact ⟨rfl, rfl⟩
  · obtain ⟨k, rfl⟩ := Int.eq_ofNat_of_zero_le (by omega : 0 ≤ i)
    by_cases hk : k < m.length
    · obtain ⟨b', off, rfl, _, _, hcell⟩ := hR (by simp [i32s]; omega)
      have c1 := hcell _ _ (i32s_at (runes_at m e k hk))
      clear hcell
      go_enter Tryd.func18, Tryd.ntmps18
      go_wp2
      go_ret
      exact ⟨rfl, rfl⟩
    · rw [runeAt_out m e k (.inr (by omega))]
      go_enter Tryd.func18, Tryd.ntmps18
      go_wp2
      go_ret
      exact ⟨rfl, rfl⟩

theorem refOff_any (h : RefAt w lo U g m e s) (i : Int) : Calls Tryd.prog 20 #[.pointer (some ⟨g, 0, none⟩), .int .i64 i] w fun e' w' => e' = .returned (.int .i64 (offAt (full m e) i)) ∧ w = w' := by
  obtain ⟨_, _, B, bc, R, rc, O, oc, a, b, c, _, _, hO, _, _, h1, h2⟩ := h
  unfold maxLen at h2
  by_cases hi : i < 0
  · rw [offAt_out m e i (.inl hi)]
    go_enter Tryd.func20, Tryd.ntmps20
    go_wp2
    go_ret
    exact ⟨rfl, rfl⟩
  · obtain ⟨k, rfl⟩ := Int.eq_ofNat_of_zero_le (by omega : 0 ≤ i)
    by_cases hk : k < m.length + 1
    · obtain ⟨b', off, rfl, _, _, hcell⟩ := hO (by simp [i64s, offsOf_length])
      have c1 := hcell _ _ (i64s_at (offsOf_at m e k hk))
      clear hcell
      go_enter Tryd.func20, Tryd.ntmps20
      go_wp2
      go_ret
      exact ⟨rfl, rfl⟩
    · rw [offAt_out m e k (.inr (by omega))]
      go_enter Tryd.func20, Tryd.ntmps20
      go_wp2
      go_ret
      exact ⟨rfl, rfl⟩

/-- The first place at which an offset stands. -/
def placeFrom (os : List Int) (off : Int) : Int := match os.findIdx? (· == off) with | some i => (i : Int) | none => -1

theorem refPlace_any (h : RefAt w lo U g m e s) (off : Int) : Calls Tryd.prog 22 #[.pointer (some ⟨g, 0, none⟩), .int .i64 off] w fun e' w' => e' = .returned (.int .i64 (placeFrom (offsOf m e) off)) ∧ w = w' := by
  obtain ⟨_, _, B, bc, R, rc, O, oc, a, b, c, _, _, hO, _, _, h1, h2⟩ := h
  unfold maxLen at h2
  obtain ⟨b', o', rfl, _, _, hcell⟩ := hO (by simp [i64s, offsOf_length])
  have hlen := offsOf_length m e
  generalize hos : offsOf m e = os at hcell hlen ⊢
  clear hos a b
  have HL := Lib.hid hlen
  clear hlen
  go_enter Tryd.func22, Tryd.ntmps22
  go_wp2
  go_loopg [5] (m.length + 2) (fun n i wr => w = wr ∧ ∃ k : Nat, k ≤ m.length + 1 ∧ n = m.length + 2 - k ∧ i = .int .i64 k ∧ ∀ j, j < k → ∀ x, os[j]? = some x → x ≠ off)
  case atStart => exact ⟨rfl, 0, by omega, by omega, rfl, by intro j hj; omega⟩
  case round =>
    obtain ⟨rfl, k, hk, hn, rfl, hno⟩ := hrel
    have HN := Lib.hid hno
    clear hno
    by_cases hlt : k < m.length + 1
    · obtain ⟨x, hx⟩ : ∃ x, os[k]? = some x := ⟨os[k]'(by rw [HL.out]; exact hlt), List.getElem?_eq_getElem _⟩
      have c1 := hcell _ _ (i64s_at hx)
      have HX := Lib.hid hx
      clear hx
      by_cases heq : x = off
      · have hb : (x == off) = true := by simp [heq]
        have HE := Lib.hid heq
        clear heq
        go_wp2
        go_ret
        refine ⟨retI ?_, rfl⟩
        have : os.findIdx? (· == off) = some k := by
          rw [List.findIdx?_eq_some_iff_getElem]
          have hk' : k < os.length := by rw [HL.out]; exact hlt
          refine ⟨hk', ?_, fun j hj => ?_⟩
          · have := HX.out; rw [List.getElem?_eq_getElem hk'] at this; simp at this; simp [this, HE.out]
          · have := HN.out j hj os[j] (List.getElem?_eq_getElem _); simpa using this
        simp [placeFrom, this]
      · have hb : (x == off) = false := by simp [heq]
        have HE := Lib.hid heq
        clear heq
        go_wp2
        go_roundg (m.length + 2 - (k + 1))
        case measure => omega
        case rel =>
          refine ⟨rfl, k + 1, by omega, rfl, by go_num, fun j hj y hy => ?_⟩
          rcases Nat.lt_succ_iff_lt_or_eq.1 hj with h | h
          · exact HN.out j h y hy
          · subst h; rw [HX.out] at hy; injection hy with hy; subst hy; exact HE.out
    · go_wp2
      go_ret
      refine ⟨retI ?_, rfl⟩
      have : os.findIdx? (· == off) = none := by
        rw [List.findIdx?_eq_none_iff]
        intro x hx
        obtain ⟨j, hj, rfl⟩ := List.getElem_of_mem hx
        have hL := HL.out
        have := HN.out j (by omega) os[j] (List.getElem?_eq_getElem _)
        simpa using this
      simp [placeFrom, this]
end
end Go.Proofs.YtkiljhlbeffnfaaDoor
