/- Plain facts: a text that is written from runes falls into them. -/
import Derived.Test.YtkiljhlbeffnfaaDoorUtf
namespace Go.Proofs.YtkiljhlbeffnfaaDoor
open Go.RowKit

/-- A rune that UTF-8 can write. -/
def Scalar (r : Int) : Prop := (0 ≤ r ∧ r < 55296) ∨ (57343 < r ∧ r ≤ 1114111)
theorem decode_scalar (s : ByteArray) (i : Nat) : Scalar ((Utf8.decode s i).1 : Int) := by
  have hb : ∀ k, (s.get! k).toNat < 256 := fun k => (s.get! k).toNat_lt
  have h0 := hb i; have h1 := hb (i + 1); have h2 := hb (i + 2); have h3 := hb (i + 3)
  rw [Lib.decode_at]
  unfold Lib.decodeN Scalar
  repeat' split
  all_goals (simp only []; omega)
theorem get!_of (s : ByteArray) {k : Nat} {b : UInt8} (h : s.data.toList[k]? = some b) : k < s.size ∧ s.get! k = b := by
  obtain ⟨hk, he⟩ := List.getElem?_eq_some_iff.1 h
  have hk' : k < s.size := by simpa using hk
  refine ⟨hk', ?_⟩
  have e1 := get_at s k hk'
  simp only [Nat.add_zero] at e1
  rw [e1]
  simpa [ByteArray.getElem_eq_getElem_data] using he
theorem byteNat {x : Int} (h0 : 0 ≤ x) (h1 : x < 256) : (x.toNat.toUInt8).toNat = x.toNat := by
  simp [Nat.toUInt8]; omega
set_option maxHeartbeats 2000000 in
/-- What is written from a rune decodes as it. -/
theorem decode_enc (s : ByteArray) (i : Nat) (r : Int) (hr : Scalar r) (h : ∀ (j : Nat) (b : UInt8), (Lib.encodeRune r)[j]? = some b → s.data.toList[i + j]? = some b) : Utf8.decode s i = (r.toNat, (Lib.encodeRune r).length) := by
  rw [Lib.decode_at]
  unfold Scalar at hr
  unfold Lib.encodeRune at h ⊢
  by_cases c1 : 0 ≤ r ∧ r ≤ 127
  · rw [Lib.encodeRuneZ_one c1.1 c1.2] at h ⊢
    obtain ⟨s0, g0⟩ := get!_of s (h 0 _ rfl)
    rw [Nat.add_zero] at s0 g0
    have b0 := byteNat c1.1 (by omega)
    rw [g0, b0]
    unfold Lib.decodeN
    rw [if_pos (by omega)]
    rfl
  by_cases c2 : 128 ≤ r ∧ r ≤ 2047
  · rw [Lib.encodeRuneZ_two c2.1 c2.2] at h ⊢
    obtain ⟨s0, g0⟩ := get!_of s (h 0 _ rfl)
    obtain ⟨s1, g1⟩ := get!_of s (h 1 _ rfl)
    rw [Nat.add_zero] at s0 g0
    have b0 := byteNat (x := 192 + r / 64) (by omega) (by omega)
    have b1 := byteNat (x := 128 + r % 64) (by omega) (by omega)
    rw [g0, g1, b0, b1]
    generalize (s.get! (i + 2)).toNat = x2
    generalize (s.get! (i + 3)).toNat = x3
    unfold Lib.decodeN
    rw [if_neg (by omega), if_pos (by omega), if_pos (by omega)]
    refine Prod.ext ?_ rfl
    simp only
    omega
  by_cases c3 : (2048 ≤ r ∧ r < 55296) ∨ (57343 < r ∧ r ≤ 65535)
  · rw [Lib.encodeRuneZ_three c3] at h ⊢
    obtain ⟨s0, g0⟩ := get!_of s (h 0 _ rfl)
    obtain ⟨s1, g1⟩ := get!_of s (h 1 _ rfl)
    obtain ⟨s2, g2⟩ := get!_of s (h 2 _ rfl)
    rw [Nat.add_zero] at s0 g0
    have b0 := byteNat (x := 224 + r / 4096) (by omega) (by omega)
    have b1 := byteNat (x := 128 + r / 64 % 64) (by omega) (by omega)
    have b2 := byteNat (x := 128 + r % 64) (by omega) (by omega)
    rw [g0, g1, g2, b0, b1, b2]
    generalize (s.get! (i + 3)).toNat = x3
    unfold Lib.decodeN
    rw [if_neg (by omega), if_neg (by omega), if_pos (by omega), if_pos (by omega)]
    refine Prod.ext ?_ rfl
    simp only
    omega
  · have c4 : 65536 ≤ r ∧ r ≤ 1114111 := by omega
    rw [Lib.encodeRuneZ_four c4.1 c4.2] at h ⊢
    obtain ⟨s0, g0⟩ := get!_of s (h 0 _ rfl)
    obtain ⟨s1, g1⟩ := get!_of s (h 1 _ rfl)
    obtain ⟨s2, g2⟩ := get!_of s (h 2 _ rfl)
    obtain ⟨s3, g3⟩ := get!_of s (h 3 _ rfl)
    rw [Nat.add_zero] at s0 g0
    have b0 := byteNat (x := 240 + r / 262144) (by omega) (by omega)
    have b1 := byteNat (x := 128 + r / 4096 % 64) (by omega) (by omega)
    have b2 := byteNat (x := 128 + r / 64 % 64) (by omega) (by omega)
    have b3 := byteNat (x := 128 + r % 64) (by omega) (by omega)
    rw [g0, g1, g2, g3, b0, b1, b2, b3]
    unfold Lib.decodeN
    rw [if_neg (by omega), if_neg (by omega), if_neg (by omega), if_pos (by omega), if_pos (by omega)]
    refine Prod.ext ?_ rfl
    simp only
    omega

def encL (l : List Int) : List UInt8 := l.flatMap Lib.encodeRune
def encS (l : List Int) : ByteArray := ⟨(encL l).toArray⟩
theorem encL_append (a b : List Int) : encL (a ++ b) = encL a ++ encL b := by simp [encL]
theorem encL_one (r : Int) : encL [r] = Lib.encodeRune r := by simp [encL]
theorem encRune_len (r : Int) : 1 ≤ (Lib.encodeRune r).length ∧ (Lib.encodeRune r).length ≤ 4 := by
  have := Lib.runeCells_le r
  rw [Lib.runeCells_length] at this
  exact this
theorem encL_len : ∀ (l : List Int), l.length ≤ (encL l).length ∧ (encL l).length ≤ 4 * l.length
  | [] => by simp [encL]
  | r :: l => by
    have h := encRune_len r
    have ih := encL_len l
    have e : encL (r :: l) = Lib.encodeRune r ++ encL l := by simp [encL]
    rw [e, List.length_append, List.length_cons]
    omega
theorem encS_size (l : List Int) : (encS l).size = (encL l).length := by simp [encS, ByteArray.size]
theorem encS_list (l : List Int) : (encS l).data.toList = encL l := by simp [encS]
theorem take_succ_get {α : Type} {l : List α} {k : Nat} (h : k < l.length) : l.take (k + 1) = l.take k ++ [l[k]] := by
  rw [List.take_add_one, List.getElem?_eq_getElem h]; rfl
theorem enc_at (l : List Int) (k : Nat) (h : k < l.length) : ∀ (j : Nat) (b : UInt8), (Lib.encodeRune l[k])[j]? = some b → (encL l)[(encL (l.take k)).length + j]? = some b := by
  intro j b hj
  have e : encL l = encL (l.take k) ++ (Lib.encodeRune l[k] ++ encL (l.drop (k + 1))) := by
    rw [← encL_one, ← encL_append, ← encL_append]
    congr 1
    rw [List.singleton_append, List.getElem_cons_drop, List.take_append_drop]
  rw [e, List.getElem?_append_right (by omega), show (encL (l.take k)).length + j - (encL (l.take k)).length = j by omega]
  rw [List.getElem?_append_left (List.getElem?_eq_some_iff.1 hj).1, hj]
theorem enc_pos {l : List Int} (hl : ∀ r ∈ l, Scalar r) : ∀ k, k ≤ l.length → posN (encS l) k = (encL (l.take k)).length
  | 0, _ => by simp [posN, encL]
  | k + 1, hk => by
    have ih := enc_pos hl k (by omega)
    have hd := decode_enc (encS l) (posN (encS l) k) l[k] (hl _ (List.getElem_mem _)) (by
      intro j b hj
      rw [encS_list, ih]
      exact enc_at l k (by omega) j b hj)
    simp only [posN]
    rw [hd, ih, take_succ_get (by omega), encL_append, List.length_append, encL_one]
theorem enc_dec {l : List Int} (hl : ∀ r ∈ l, Scalar r) {k : Nat} (hk : k < l.length) : Utf8.decode (encS l) (posN (encS l) k) = (l[k].toNat, (Lib.encodeRune l[k]).length) := by
  refine decode_enc (encS l) (posN (encS l) k) l[k] (hl _ (List.getElem_mem _)) ?_
  intro j b hj
  rw [encS_list, enc_pos hl k (by omega)]
  exact enc_at l k (by omega) j b hj
theorem enc_lt (l : List Int) {k : Nat} (hk : k < l.length) : (encL (l.take k)).length < (encL l).length := by
  have e : encL l = encL (l.take k) ++ encL (l.drop k) := by rw [← encL_append, List.take_append_drop]
  have h := (encL_len (l.drop k)).1
  rw [List.length_drop] at h
  rw [e, List.length_append]
  omega
theorem enc_cnt {l : List Int} (hl : ∀ r ∈ l, Scalar r) : Cnt (encS l) l.length := by
  refine ⟨?_, fun k hk => ?_⟩
  · rw [enc_pos hl _ (Nat.le_refl _), List.take_of_length_le (Nat.le_refl _), encS_size]
  · rw [enc_pos hl _ (by omega), encS_size]
    exact enc_lt l hk
theorem enc_sym {l : List Int} (hl : ∀ r ∈ l, Scalar r) {k : Nat} (hk : k < l.length) : symN (encS l) k = (l[k], (encL (l.take k)).length) := by
  unfold symN
  rw [enc_dec hl hk, enc_pos hl k (by omega)]
  have h := hl l[k] (List.getElem_mem _)
  unfold Scalar at h
  refine Prod.ext ?_ rfl
  simp only
  omega
/-- The runes of what was written from runes. -/
theorem enc_runes {l : List Int} (hl : ∀ r ∈ l, Scalar r) : (pre (encS l) l.length).map (·.1) = l := by
  refine List.ext_getElem (by simp [pre_length]) fun k h1 h2 => ?_
  have h3 := pre_at (encS l) l.length k h2
  rw [enc_sym hl h2] at h3
  have h4 : k < (pre (encS l) l.length).length := by rw [pre_length]; exact h2
  rw [List.getElem?_eq_getElem h4] at h3
  injection h3 with h3
  rw [List.getElem_map, h3]
/-- A text's runes. -/
def runesOf (s : ByteArray) (m : Nat) : List Int := (pre s m).map (·.1)
theorem runesOf_len (s : ByteArray) (m : Nat) : (runesOf s m).length = m := by simp [runesOf, pre_length]
theorem runesOf_scalar (s : ByteArray) (m : Nat) : ∀ r ∈ runesOf s m, Scalar r := by
  intro r hr
  obtain ⟨p, hp, rfl⟩ := List.mem_map.1 hr
  unfold pre at hp
  obtain ⟨k, _, rfl⟩ := List.mem_map.1 hp
  exact decode_scalar s _
end Go.Proofs.YtkiljhlbeffnfaaDoor
