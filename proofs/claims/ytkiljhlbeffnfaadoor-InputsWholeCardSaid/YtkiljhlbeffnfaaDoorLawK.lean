/- Facts of the runes' places. -/
import Derived.Test.YtkiljhlbeffnfaaDoorLawPl
namespace Go.Proofs.YtkiljhlbeffnfaaDoor
open Go.RowKit

theorem full_at {s : ByteArray} {m : Nat} (hm : Cnt s m) {k : Nat} (hk : k ≤ m) : ∃ r, (full (pre s m) s.size)[k]? = some (r, posN s k) := by
  rcases Nat.lt_or_eq_of_le hk with h | h
  · refine ⟨(symN s k).1, ?_⟩
    unfold full
    rw [List.getElem?_append_left (by rw [pre_length]; exact h), pre_at s m k h]
    rfl
  · subst h
    refine ⟨-1, ?_⟩
    unfold full
    rw [List.getElem?_append_right (by rw [pre_length]; exact Nat.le_refl _), pre_length, hm.1]
    simp
theorem fullLen (s : ByteArray) (m : Nat) : (full (pre s m) s.size).length = m + 1 := by rw [full_length, pre_length]
theorem offAt_full {s : ByteArray} {m : Nat} (hm : Cnt s m) {k : Nat} (hk : k ≤ m) : offAt (full (pre s m) s.size) (k : Int) = (posN s k : Int) := by
  obtain ⟨p, hp, he⟩ := offAt_get (l := full (pre s m) s.size) (k := k) (by rw [fullLen]; omega)
  obtain ⟨r, hr⟩ := full_at hm hk
  rw [hr] at hp
  injection hp with hp
  rw [he, ← hp]
theorem posN_le' {s : ByteArray} {m : Nat} (hm : Cnt s m) {i j : Nat} (h : i ≤ j) (hj : j ≤ m) : posN s i ≤ posN s j := by
  rcases Nat.lt_or_eq_of_le h with h | h
  · exact Nat.le_of_lt (posN_lt s hm.2 h hj)
  · subst h; exact Nat.le_refl _
theorem full_fits {s : ByteArray} {m : Nat} (hm : Cnt s m) : Fits (full (pre s m) s.size) s.data.toList.length := by
  have hl := fullLen s m
  refine ⟨fun i j h0 hij hj => ?_, fun j h0 hj => ?_⟩
  · obtain ⟨a, rfl⟩ := Int.eq_ofNat_of_zero_le h0
    obtain ⟨b, rfl⟩ := Int.eq_ofNat_of_zero_le (by omega : 0 ≤ j)
    rw [offAt_full hm (by omega), offAt_full hm (by omega)]
    have := posN_le' hm (i := a) (j := b) (by omega) (by omega)
    omega
  · obtain ⟨b, rfl⟩ := Int.eq_ofNat_of_zero_le h0
    rw [offAt_full hm (by omega), blen]
    have := posN_le' hm (i := b) (j := m) (by omega) (Nat.le_refl _)
    have := hm.1
    omega
theorem full_get {s : ByteArray} {m : Nat} (hm : Cnt s m) {k : Nat} {p : Int × Nat} (h : (full (pre s m) s.size)[k]? = some p) : k ≤ m ∧ p.2 = posN s k := by
  have hk := (List.getElem?_eq_some_iff.1 h).1
  rw [fullLen] at hk
  obtain ⟨r, hr⟩ := full_at hm (k := k) (by omega)
  rw [hr] at h
  injection h with h
  exact ⟨by omega, by rw [← h]⟩
theorem full_rising {s : ByteArray} {m : Nat} (hm : Cnt s m) : Rising (full (pre s m) s.size) := by
  unfold Rising
  rw [List.pairwise_iff_getElem]
  intro i j hi hj hij
  have h1 := full_get hm (List.getElem?_eq_getElem hi)
  have h2 := full_get hm (List.getElem?_eq_getElem hj)
  rw [h1.2, h2.2]
  exact posN_lt s hm.2 hij h2.1
theorem full_small {s : ByteArray} {m : Nat} (hm : Cnt s m) : ∀ p ∈ full (pre s m) s.size, p.2 ≤ s.size := by
  intro p hp
  obtain ⟨k, hk, rfl⟩ := List.getElem_of_mem hp
  have h1 := full_get hm (List.getElem?_eq_getElem hk)
  rw [h1.2, ← hm.1]
  exact posN_le' hm h1.1 (Nat.le_refl _)
theorem placeOf_from (l : List (Int × Nat)) (e : Nat) (off : Int) : placeOf (full l e) off = placeFrom (offsOf l e) off := by
  unfold placeOf
  split
  next h =>
    have : (offsOf l e).findIdx? (· == off) = none := by
      rw [List.findIdx?_eq_none_iff]
      intro x hx
      obtain ⟨p, _, rfl⟩ := List.mem_map.1 hx
      simp; omega
    simp [placeFrom, this]
  next h => rfl
end Go.Proofs.YtkiljhlbeffnfaaDoor
