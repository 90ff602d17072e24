/- Lists of ranges that a call has made. -/
import Derived.Test.YtbhcgjahlfpjoaaDoorSetW2
import Derived.Test.YtbhcgjahlfpjoaaDoorSetM2
namespace Go.Proofs.YtbhcgjahlfpjoaaDoor
open Go.RowKit

theorem fitsRg {p : Rg} (h : 0 ≤ p.1 ∧ p.1 ≤ p.2 ∧ p.2 ≤ maxR) : (-2147483648 ≤ p.1 ∧ p.1 ≤ 2147483647) ∧ (-2147483648 ≤ p.2 ∧ p.2 ≤ 2147483647) := by
  unfold maxR at h; omega

theorem RgIn.of_own {w : World} {base : Nat} {B : Option Addr} {m d : Nat} {s : List Rg} (h : w.ownsRow base 66 2 (.slice B m d) m (rgCells s)) (hs : s.length = m) (hf : ∀ p ∈ s, (-2147483648 ≤ p.1 ∧ p.1 ≤ 2147483647) ∧ (-2147483648 ≤ p.2 ∧ p.2 ≤ 2147483647)) : RgIn w B m d s := by
  obtain ⟨B', d', he, h1, h2⟩ := own_form h
  injection he with e1 _ e2
  subst e1; subst e2
  have hR : Rd w 0 w.heap.size B (rgCells s) := Rd.of_own h (Nat.zero_le _) (Nat.le_refl _)
  refine ⟨hR, hs, h1, h2, fun hB => ?_, hf⟩
  rcases Nat.eq_zero_or_pos m with h0 | h0
  · exact h0
  · obtain ⟨_, _, h3, _⟩ := hR (by rw [rgCells_length]; omega)
    rw [h3] at hB; cases hB
theorem ownsRow_below' {w w' : World} {base : Nat} {e : TypeId} {size n : Nat} {v : Value} {xs : List Value} (h : w.ownsRow base e size v n xs) (hb : Below w.heap.size w w') : w'.ownsRow base e size v n xs := by
  obtain ⟨h1, h2⟩ := h
  refine ⟨h1, ?_⟩
  rcases h2 with h2 | ⟨g, cap, cur, hv, hg, hh, r⟩
  · exact .inl h2
  · exact .inr ⟨g, cap, cur, hv, hg, (hb.block g (Array.getElem?_eq_some_iff.1 hh).1).trans hh, r⟩
theorem rgCells_take (s : List Rg) (a : Nat) : rgCells (s.take a) = (rgCells s).take (a * 2) := by
  induction s generalizing a with
  | nil => simp [rgCells]
  | cons x r ih =>
    cases a with
    | zero => simp [rgCells]
    | succ a => have := ih a; simp [rgCells, rgCell] at this ⊢; rw [this, show (a + 1) * 2 = a * 2 + 2 by omega]; simp
theorem rgCells_drop (s : List Rg) (a : Nat) : rgCells (s.drop a) = (rgCells s).drop (a * 2) := by
  induction s generalizing a with
  | nil => simp [rgCells]
  | cons x r ih =>
    cases a with
    | zero => simp [rgCells]
    | succ a => have := ih a; simp [rgCells, rgCell] at this ⊢; rw [this, show (a + 1) * 2 = a * 2 + 2 by omega]; simp

theorem ownsRow_base {w : World} {base b : Nat} {e : TypeId} {size n : Nat} {v : Value} {xs : List Value} (h : w.ownsRow base e size v n xs) (hb : b ≤ base) : w.ownsRow b e size v n xs := by
  obtain ⟨h1, h2⟩ := h
  refine ⟨h1, ?_⟩
  rcases h2 with h2 | ⟨g, cap, cur, hv, hg, r⟩
  · exact .inl h2
  · exact .inr ⟨g, cap, cur, hv, Nat.le_trans hb hg, r⟩

theorem canon_len' : ∀ (l : List Rg) (f : Int), Canon l → (∀ p ∈ l, f ≤ p.1) → f ≤ maxR + 2 → 2 * (l.length : Int) ≤ maxR + 2 - f
  | [], f, _, _, h => by simp; omega
  | p :: r, f, hc, hf, h => by
    obtain ⟨h1, h2, h3⟩ := canon_cons.1 hc
    have := canon_len' r (p.2 + 2) h3 h2 (by omega)
    have := hf p (.head _)
    simp only [List.length_cons]
    omega
theorem canon_len {l : List Rg} (h : Canon l) : l.length ≤ 600000 := by
  have := canon_len' l 0 h (fun p hp => (h.1 p hp).1) (by decide)
  unfold maxR at this
  omega

/-- What a call that makes a set hands back. -/
structure Got (P : Int → Prop) (w : World) (B : Option Addr) (m d : Nat) (r : List Rg) (w' : World) : Prop where
  set : SetOf P r
  len : r.length = m
  own : w'.ownsRow w.heap.size 66 2 (.slice B m d) m (rgCells r)
  below : Below w.heap.size w w'
theorem Got.small {P : Int → Prop} {w : World} {B : Option Addr} {m d : Nat} {r : List Rg} {w' : World} (h : Got P w B m d r w') : r.length ≤ 600000 := canon_len h.set.canon
theorem Got.rg {P : Int → Prop} {w : World} {B : Option Addr} {m d : Nat} {r : List Rg} {w' : World} (h : Got P w B m d r w') : RgIn w' B m d r :=
  RgIn.of_own h.own h.len fun p hp => fitsRg (h.set.canon.1 p hp)
end Go.Proofs.YtbhcgjahlfpjoaaDoor
