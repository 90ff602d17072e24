/- Texts that are rightly written: plain. -/
import Derived.Test.YtkiljhlbeffnfaaDoorVa1
import Derived.Test.YtkiljhlbeffnfaaDoorUtf2
namespace Go.Proofs.YtkiljhlbeffnfaaDoor
open Go.RowKit

/-- From a byte on, all runes are rightly written. -/
inductive WFat (s : ByteArray) : Nat → Prop
  | done {i : Nat} (h : s.size ≤ i) : WFat s i
  | step {i : Nat} (r : Int) (hr : Scalar r) (h : ∀ (j : Nat) (b : UInt8), (Lib.encodeRune r)[j]? = some b → s.data.toList[i + j]? = some b) (hw : WFat s (i + (Lib.encodeRune r).length)) : WFat s i
theorem get_list (s : ByteArray) {i : Nat} (h : i < s.size) : s.data.toList[i]? = some (s.get! i) := by
  have h1 : i < s.data.toList.length := by rw [Array.length_toList]; exact h
  rw [List.getElem?_eq_getElem h1]
  have := get!_of s (List.getElem?_eq_getElem h1)
  rw [this.2]
theorem WFat.of {s : ByteArray} {i : Nat} {r : Int} (hr : Scalar r) (Z : List Nat) (hz : Lib.encodeRuneZ r = Z.map Int.ofNat) (h : ∀ j z, Z[j]? = some z → i + j < s.size ∧ (s.get! (i + j)).toNat = z) (hw : WFat s (i + Z.length)) : WFat s i := by
  have he : Lib.encodeRune r = Z.map fun z => z.toUInt8 := by unfold Lib.encodeRune; rw [hz, List.map_map]; rfl
  refine .step r hr (fun j b hb => ?_) (by rw [he, List.length_map]; exact hw)
  rw [he, List.getElem?_map] at hb
  obtain ⟨z, hz1, rfl⟩ := Option.map_eq_some_iff.1 hb
  obtain ⟨h1, h2⟩ := h j z hz1
  rw [get_list s h1, ← h2]
  simp
theorem WFat.one {s : ByteArray} {i : Nat} (h0 : i < s.size) (hx : (s.get! i).toNat < 128) (hw : WFat s (i + 1)) : WFat s i := by
  refine .of (r := ((s.get! i).toNat : Int)) (.inl (by omega)) [(s.get! i).toNat] (Lib.encodeRuneZ_one (by omega) (by omega)) (fun j z hj => ?_) hw
  match j, hj with
  | 0, hj => simp at hj; exact ⟨h0, by rw [Nat.add_zero]; exact hj⟩
  | j + 1, hj => simp at hj
theorem WFat.two {s : ByteArray} {i : Nat} (h0 : i + 1 < s.size) (hx : 194 ≤ (s.get! i).toNat ∧ (s.get! i).toNat ≤ 223) (hy : 128 ≤ (s.get! (i + 1)).toNat ∧ (s.get! (i + 1)).toNat ≤ 191) (hw : WFat s (i + 2)) : WFat s i := by
  have hz := Lib.encodeRuneZ_two (r := (((s.get! i).toNat : Int) - 192) * 64 + (((s.get! (i + 1)).toNat : Int) - 128)) (by omega) (by omega)
  refine .of (r := (((s.get! i).toNat : Int) - 192) * 64 + (((s.get! (i + 1)).toNat : Int) - 128)) (.inl (by omega)) [(s.get! i).toNat, (s.get! (i + 1)).toNat] ?_ (fun j z hj => ?_) hw
  · rw [hz]
    simp only [List.map_cons, List.map_nil, Int.ofNat_eq_natCast, List.cons.injEq, and_true]
    omega
  · match j, hj with
    | 0, hj => simp at hj; exact ⟨by omega, by rw [Nat.add_zero]; exact hj⟩
    | 1, hj => simp at hj; exact ⟨h0, hj⟩
    | j + 2, hj => simp at hj
theorem WFat.three {s : ByteArray} {i : Nat} (h0 : i + 2 < s.size) (hx : 224 ≤ (s.get! i).toNat ∧ (s.get! i).toNat ≤ 239) (hy : 128 ≤ (s.get! (i + 1)).toNat ∧ (s.get! (i + 1)).toNat ≤ 191) (hv : 128 ≤ (s.get! (i + 2)).toNat ∧ (s.get! (i + 2)).toNat ≤ 191)
    (h1 : (s.get! i).toNat = 224 → 160 ≤ (s.get! (i + 1)).toNat) (h2 : (s.get! i).toNat = 237 → (s.get! (i + 1)).toNat ≤ 159) (hw : WFat s (i + 3)) : WFat s i := by
  have hs : (2048 ≤ (((s.get! i).toNat : Int) - 224) * 4096 + (((s.get! (i + 1)).toNat : Int) - 128) * 64 + (((s.get! (i + 2)).toNat : Int) - 128) ∧ (((s.get! i).toNat : Int) - 224) * 4096 + (((s.get! (i + 1)).toNat : Int) - 128) * 64 + (((s.get! (i + 2)).toNat : Int) - 128) < 55296) ∨
      (57343 < (((s.get! i).toNat : Int) - 224) * 4096 + (((s.get! (i + 1)).toNat : Int) - 128) * 64 + (((s.get! (i + 2)).toNat : Int) - 128) ∧ (((s.get! i).toNat : Int) - 224) * 4096 + (((s.get! (i + 1)).toNat : Int) - 128) * 64 + (((s.get! (i + 2)).toNat : Int) - 128) ≤ 65535) := by
    by_cases e1 : (s.get! i).toNat = 224
    · have := h1 e1; omega
    · by_cases e2 : (s.get! i).toNat = 237
      · have := h2 e2; omega
      · omega
  have hz := Lib.encodeRuneZ_three hs
  refine .of (r := (((s.get! i).toNat : Int) - 224) * 4096 + (((s.get! (i + 1)).toNat : Int) - 128) * 64 + (((s.get! (i + 2)).toNat : Int) - 128)) (by unfold Scalar; omega) [(s.get! i).toNat, (s.get! (i + 1)).toNat, (s.get! (i + 2)).toNat] ?_ (fun j z hj => ?_) hw
  · rw [hz]
    simp only [List.map_cons, List.map_nil, Int.ofNat_eq_natCast, List.cons.injEq, and_true]
    omega
  · match j, hj with
    | 0, hj => simp at hj; exact ⟨by omega, by rw [Nat.add_zero]; exact hj⟩
    | 1, hj => simp at hj; exact ⟨by omega, hj⟩
    | 2, hj => simp at hj; exact ⟨h0, hj⟩
    | j + 3, hj => simp at hj
theorem WFat.four {s : ByteArray} {i : Nat} (h0 : i + 3 < s.size) (hx : 240 ≤ (s.get! i).toNat ∧ (s.get! i).toNat ≤ 244) (hy : 128 ≤ (s.get! (i + 1)).toNat ∧ (s.get! (i + 1)).toNat ≤ 191) (hv : 128 ≤ (s.get! (i + 2)).toNat ∧ (s.get! (i + 2)).toNat ≤ 191) (hu : 128 ≤ (s.get! (i + 3)).toNat ∧ (s.get! (i + 3)).toNat ≤ 191)
    (h1 : (s.get! i).toNat = 240 → 144 ≤ (s.get! (i + 1)).toNat) (h2 : (s.get! i).toNat = 244 → (s.get! (i + 1)).toNat ≤ 143) (hw : WFat s (i + 4)) : WFat s i := by
  have hs : 65536 ≤ (((s.get! i).toNat : Int) - 240) * 262144 + (((s.get! (i + 1)).toNat : Int) - 128) * 4096 + (((s.get! (i + 2)).toNat : Int) - 128) * 64 + (((s.get! (i + 3)).toNat : Int) - 128) ∧ (((s.get! i).toNat : Int) - 240) * 262144 + (((s.get! (i + 1)).toNat : Int) - 128) * 4096 + (((s.get! (i + 2)).toNat : Int) - 128) * 64 + (((s.get! (i + 3)).toNat : Int) - 128) ≤ 1114111 := by
    by_cases e1 : (s.get! i).toNat = 240
    · have := h1 e1; omega
    · by_cases e2 : (s.get! i).toNat = 244
      · have := h2 e2; omega
      · omega
  have hz := Lib.encodeRuneZ_four hs.1 hs.2
  refine .of (r := (((s.get! i).toNat : Int) - 240) * 262144 + (((s.get! (i + 1)).toNat : Int) - 128) * 4096 + (((s.get! (i + 2)).toNat : Int) - 128) * 64 + (((s.get! (i + 3)).toNat : Int) - 128)) (by unfold Scalar; omega) [(s.get! i).toNat, (s.get! (i + 1)).toNat, (s.get! (i + 2)).toNat, (s.get! (i + 3)).toNat] ?_ (fun j z hj => ?_) hw
  · rw [hz]
    simp only [List.map_cons, List.map_nil, Int.ofNat_eq_natCast, List.cons.injEq, and_true]
    omega
  · match j, hj with
    | 0, hj => simp at hj; exact ⟨by omega, by rw [Nat.add_zero]; exact hj⟩
    | 1, hj => simp at hj; exact ⟨by omega, hj⟩
    | 2, hj => simp at hj; exact ⟨by omega, hj⟩
    | 3, hj => simp at hj; exact ⟨h0, hj⟩
    | j + 4, hj => simp at hj
/-- Bytes below 128 ahead. -/
theorem WFat.run {s : ByteArray} {i : Nat} : ∀ {k : Nat}, (∀ j, j < k → i + j < s.size ∧ (s.get! (i + j)).toNat < 128) → WFat s (i + k) → WFat s i
  | 0, _, hw => hw
  | k + 1, h, hw => by
    have h0 := h k (Nat.lt_succ_self _)
    exact WFat.run (k := k) (fun j hj => h j (by omega)) (.one h0.1 h0.2 hw)
/-- What is read of a text that is rightly written. -/
theorem WFat.read {s : ByteArray} {i : Nat} (h : WFat s i) (hi : i < s.size) : Lib.encodeRune ((Utf8.decode s i).1 : Int) = (s.data.toList.take (i + (Utf8.decode s i).2)).drop i ∧ WFat s (i + (Utf8.decode s i).2) := by
  cases h with
  | done h => omega
  | step r hr hb hw =>
    have hd := decode_enc s i r hr hb
    rw [hd]
    dsimp only
    have h0 : ((r.toNat : Nat) : Int) = r := by have : 0 ≤ r := by unfold Scalar at hr; omega
                                                omega
    rw [h0]
    refine ⟨?_, hw⟩
    apply List.ext_getElem?
    intro j
    rw [List.getElem?_drop, List.getElem?_take]
    by_cases hj : j < (Lib.encodeRune r).length
    · rw [if_pos (by omega), List.getElem?_eq_getElem hj]
      exact (hb j _ (List.getElem?_eq_getElem hj)).symm
    · rw [if_neg (by omega), List.getElem?_eq_none (by omega)]
end Go.Proofs.YtkiljhlbeffnfaaDoor
