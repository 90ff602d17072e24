/- Lists of runes in memory. -/
import Derived.Test.YtbhcgjahlfpjoaaSetW1
namespace Go.Proofs.Ytbhcgjahlfpjoaa
open Go.RowKit

def i32s (l : List Int) : List Value := l.map (Value.int .i32)
theorem i32s_at {l : List Int} {k : Nat} {x : Int} (h : l[k]? = some x) : (i32s l)[k]? = some (.int .i32 x) := by simp [i32s, h]
theorem i32s_length (l : List Int) : (i32s l).length = l.length := by simp [i32s]
theorem i32s_append (a b : List Int) : i32s (a ++ b) = i32s a ++ i32s b := by simp [i32s]
theorem i32s_one (l : List Int) : ∀ u ∈ i32s l, u.oneCell' = true := by
  intro u hu
  obtain ⟨x, _, rfl⟩ := List.mem_map.1 hu
  rfl
/-- A list of runes that lies in memory. -/
structure RnIn (w : World) (A : Option Addr) (n c : Nat) (l : List Int) : Prop where
  rd : Rd w 0 w.heap.size A (i32s l)
  len : l.length = n
  le : n ≤ c
  max : c ≤ maxLen
  nil : A = none → n = 0
theorem RnIn.below {w w' : World} {A : Option Addr} {n c : Nat} {l : List Int} (h : RnIn w A n c l) (hb : Below w.heap.size w w') : RnIn w' A n c l :=
  ⟨(h.rd.same (.of_below hb (Nat.le_refl _))).mono (Nat.le_refl _) hb.size, h.len, h.le, h.max, h.nil⟩
theorem RnIn.drewN {w : World} {A : Option Addr} {n c : Nat} {l : List Int} (h : RnIn w A n c l) (d : Nat) : RnIn (w.drewN d) A n c l := h.below (Below.refl _ _).drewN
theorem RnIn.empty (w : World) : RnIn w none 0 0 [] := ⟨Rd.nil, rfl, Nat.le_refl _, Nat.zero_le _, fun _ => rfl⟩
theorem RnIn.of_own {w : World} {base : Nat} {B : Option Addr} {m d : Nat} {s : List Int} (h : w.ownsRow base 21 1 (.slice B m d) m (i32s s)) (hs : s.length = m) : RnIn w B m d s := by
  obtain ⟨B', d', he, h1, h2⟩ := own_form h
  injection he with e1 _ e2
  subst e1; subst e2
  have hR : Rd w 0 w.heap.size B (i32s s) := Rd.of_own h (Nat.zero_le _) (Nat.le_refl _)
  refine ⟨hR, hs, h1, h2, fun hB => ?_⟩
  rcases Nat.eq_zero_or_pos m with h0 | h0
  · exact h0
  · obtain ⟨_, _, h3, _⟩ := hR (by rw [i32s_length]; omega)
    rw [h3] at hB; cases hB
theorem RnIn.at {w : World} {A : Option Addr} {n c : Nat} {l : List Int} (h : RnIn w A n c l) {k : Nat} (hk : k < n) :
    ∃ b o x, A = some ⟨b, o, none⟩ ∧ b < w.heap.size ∧ l[k]? = some x ∧ (∀ W, Same 0 w.heap.size w W → W.cell? ⟨b, o + k, none⟩ = some (.int .i32 x)) := by
  obtain ⟨b, o, hA, _, hb, hc⟩ := h.rd (by rw [i32s_length, h.len]; omega)
  have hk' : k < l.length := by rw [h.len]; exact hk
  have hp : l[k]? = some l[k] := List.getElem?_eq_getElem hk'
  exact ⟨b, o, l[k], hA, hb, hp, fun W hW => (hW.cell (p := ⟨b, o + k, none⟩) (Nat.zero_le _) hb).trans (hc _ _ (i32s_at hp))⟩
theorem elRn : ElemOK Try.prog 52 21 1 4 := .mk' (z := .int .i32 0) Try.underlying52 (by kernel_rfl) rfl (by decide)
theorem ownsRow_far {w w' : World} {base : Nat} {e : TypeId} {size n : Nat} {v : Value} {xs : List Value} (h : w.ownsRow base e size v n xs) (hs : ∀ k, v.ownBlock = some k → w'.heap[k]? = w.heap[k]?) : w'.ownsRow base e size v n xs := by
  obtain ⟨h1, h2⟩ := h
  refine ⟨h1, ?_⟩
  rcases h2 with h2 | ⟨g, cap, cur, hv, hg, hh, r⟩
  · exact .inl h2
  · exact .inr ⟨g, cap, cur, hv, hg, (hs g (by rw [hv]; rfl)).trans hh, r⟩
end Go.Proofs.Ytbhcgjahlfpjoaa
