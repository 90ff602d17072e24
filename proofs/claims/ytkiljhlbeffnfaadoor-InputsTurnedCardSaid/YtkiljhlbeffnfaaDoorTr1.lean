/- Turned: the program's. -/
import Derived.Test.YtkiljhlbeffnfaaDoorLawK
import Derived.Test.YtkiljhlbeffnfaaDoorUtf2
import Derived.Laws.Cover4
import Derived.Lib.ConvBytes
namespace Go.Proofs.YtkiljhlbeffnfaaDoor
open Go.RowKit

theorem encode_eq {r : Int} (h : Scalar r) : Utf8.encode r = ⟨(Lib.encodeRune r).toArray⟩ := by
  have hv : Utf8.valid r = true := by rw [validRune_eq, validRune]; exact decide_eq_true h
  have hu : ∀ x : Int, 0 ≤ x → x < 256 → x.toNat.toUInt8 = UInt8.ofNat x.toNat := fun x _ _ => rfl
  unfold Scalar at h
  unfold Utf8.encode Lib.encodeRune
  simp only [hv, if_true]
  by_cases c1 : 0 ≤ r ∧ r ≤ 127
  · rw [Lib.encodeRuneZ_one c1.1 c1.2, if_pos (by omega)]; rfl
  by_cases c2 : 128 ≤ r ∧ r ≤ 2047
  · rw [Lib.encodeRuneZ_two c2.1 c2.2, if_neg (by omega), if_pos (by omega)]
    simp only [List.map_cons, List.map_nil, Nat.toUInt8]
    rw [show (192 + r / 64).toNat = 0xC0 + r.toNat / 64 by omega, show (128 + r % 64).toNat = 0x80 + r.toNat % 64 by omega]
  by_cases c3 : (2048 ≤ r ∧ r < 55296) ∨ (57343 < r ∧ r ≤ 65535)
  · rw [Lib.encodeRuneZ_three c3, if_neg (by omega), if_neg (by omega), if_pos (by omega)]
    simp only [List.map_cons, List.map_nil, Nat.toUInt8]
    rw [show (224 + r / 4096).toNat = 0xE0 + r.toNat / 4096 by omega, show (128 + r / 64 % 64).toNat = 0x80 + r.toNat / 64 % 64 by omega, show (128 + r % 64).toNat = 0x80 + r.toNat % 64 by omega]
  · rw [Lib.encodeRuneZ_four (by omega) (by omega), if_neg (by omega), if_neg (by omega), if_neg (by omega)]
    simp only [List.map_cons, List.map_nil, Nat.toUInt8]
    rw [show (240 + r / 262144).toNat = 0xF0 + r.toNat / 262144 by omega, show (128 + r / 4096 % 64).toNat = 0x80 + r.toNat / 4096 % 64 by omega, show (128 + r / 64 % 64).toNat = 0x80 + r.toNat / 64 % 64 by omega, show (128 + r % 64).toNat = 0x80 + r.toNat % 64 by omega]
theorem runesBytes_enc {l : List Int} (h : ∀ r ∈ l, Scalar r) : runesBytes l = encS l := by
  have key : ∀ (l : List Int) (s : ByteArray), (∀ r ∈ l, Scalar r) → (l.foldl (fun r n => r ++ Utf8.encode n) s).data.toList = s.data.toList ++ encL l := by
    intro l
    induction l with
    | nil => intro s _; simp [encL]
    | cons r l ih =>
      intro s hl
      rw [List.foldl_cons, ih _ (fun x hx => hl x (.tail _ hx)), encode_eq (hl r (.head _))]
      simp [encL, ByteArray.data_append]
  have h1 := key l ByteArray.empty h
  unfold runesBytes
  generalize l.foldl (fun r n => r ++ Utf8.encode n) ByteArray.empty = s at h1
  obtain ⟨⟨x⟩⟩ := s
  have : x = encL l := by simpa using h1
  rw [this]
  rfl
theorem conv_rs {w : World} {base n : Nat} {v : Value} {l : List Int} (h : w.ownsRow base 21 1 v n (i32s l)) (hl : ∀ r ∈ l, Scalar r) :
    (convert 49 9 v).run Tryd.prog w = .ok (.string (encS l)) w := by
  have hn : l.length = n := by have := h.1; simp [i32s] at this; omega
  rcases h.2 with ⟨rfl, rfl⟩ | ⟨g, cap, cur, rfl, _, hg, _, _, _, hx⟩
  · obtain rfl : l = [] := List.eq_nil_of_length_eq_zero hn
    exact (run_convert_runes_nil w _ _ _ 0 0 Tryd.underlying49 Tryd.underlying21 Tryd.underlying9).trans rfl
  · have hc := h.cells (g := g) rfl
    have := run_convert_runes (P := Tryd.prog) w _ _ _ ⟨g, 0, none⟩ n cap l (by omega) Tryd.underlying49 Tryd.underlying21 Tryd.underlying9 (fun j hj => hc j _ (by simp [i32s, List.getD, List.getElem?_eq_getElem hj]))
    rw [this, List.take_of_length_le (by omega), runesBytes_enc hl]

theorem bytes_conv (w : World) (s : ByteArray) (hs : s.size ≤ maxLen) : ∃ C W1, (convert 9 23 (.string s)).run Tryd.prog w = .ok (.slice (some ⟨w.heap.size, 0, none⟩) s.size C) W1 ∧ Below w.heap.size w W1 ∧ W1.heap.size = w.heap.size + 1 ∧ Rd W1 w.heap.size W1.heap.size (some ⟨w.heap.size, 0, none⟩) (byteVals s.data.toList) ∧ s.size ≤ C ∧ C ≤ maxLen := by
  refine ⟨_, _, Lib.run_convert_string_bytes w _ _ _ s Tryd.underlying9 Tryd.underlying23 Tryd.underlying5, ⟨rfl, rfl, rfl, ?_, fun k hk => Lib.bytesWorld_at_old w _ s k hk⟩, Lib.bytesWorld_size _ _ _, fun _ => ⟨_, 0, rfl, Nat.le_refl _, by rw [Lib.bytesWorld_size]; omega, fun j u hu => ?_⟩, grownCap_ge _ _ _ _, grownCap_le_maxLen _ _ _ _ hs⟩
  · rw [Lib.bytesWorld_size]; omega
  · have hj : j < s.size := by
      have := (List.getElem?_eq_some_iff.1 hu).1
      rw [byteVals_length, blen] at this
      exact this
    rw [Nat.zero_add, Lib.bytesWorld_cell w _ s j hj]
    rw [← hu]
    have hj' : j < s.data.toList.length := by rw [blen]; exact hj
    simp only [byteVals, List.getElem?_map, List.getElem?_eq_getElem hj', Option.map_some, List.getD, Option.getD_some]
/-- The runes from behind. -/
def revR (s : ByteArray) (m : Nat) : List Int := (runesOf s m).reverse
theorem revR_len (s : ByteArray) (m : Nat) : (revR s m).length = m := by simp [revR, runesOf_len]
theorem revR_scalar (s : ByteArray) (m : Nat) : ∀ r ∈ revR s m, Scalar r := fun r hr => runesOf_scalar s m r (by simpa [revR] using hr)
theorem revR_at (s : ByteArray) (m j : Nat) (h : j < m) : (revR s m)[j]? = some (runeAt (full (pre s m) s.size) ((m : Int) - 1 - (j : Int))) := by
  have e : (m : Int) - 1 - (j : Int) = ((m - 1 - j : Nat) : Int) := by omega
  rw [e, ← runes_at (pre s m) s.size (m - 1 - j) (by rw [pre_length]; omega)]
  unfold revR
  rw [List.getElem?_reverse (by rw [runesOf_len]; exact h), runesOf_len]
  rfl

set_option maxRecDepth 20000 in
set_option maxHeartbeats 2000000 in
theorem turned_any {w : World} {lo U g : Nat} {k : Int} {s : ByteArray} {m : Nat} (hin : InAt w lo U g k (full (pre s m) s.size) s.data.toList) (hU : U ≤ w.heap.size) (hm : m ≤ 65536) :
    Calls Tryd.prog 26 #[.pointer (some ⟨g, 0, none⟩)] w fun e w' => ∃ g', e = .returned (.pointer (some ⟨g', 0, none⟩)) ∧ InAt w' w.heap.size w'.heap.size g' k (full (pre (encS (revR s m)) m) (encS (revR s m)).size) (encS (revR s m)).data.toList ∧ Below w.heap.size w w' := by
  have cL := len_any hin.1
  rw [fullLen] at cL
  have e1 : ((m + 1 : Nat) : Int) - 1 = m := by omega
  rw [e1] at cL
  have HI := Lib.hid hin
  have hgl : g < w.heap.size := Nat.lt_of_lt_of_le hin.1.2.1 hU
  clear hin e1
  go_enter Tryd.func26, Tryd.ntmps26
  go_wp2_with fail
  refine cL.mono ?_
  rintro e w' ⟨rfl, rfl⟩
  go_wp2_with fail
  go_loopg [3, 4] (m + 1) (fun q v i wr => ∃ (j : Nat), q = m + 1 - j ∧ j ≤ m ∧ i = .int .i64 ((m : Int) - 1 - (j : Int)) ∧ Hid (wr.ownsRow w.heap.size 21 1 v j (i32s ((revR s m).take j))) ∧ Hid (Below w.heap.size w wr))
  case atStart => exact ⟨0, rfl, by omega, by go_num, Lib.hid (World.ownsRow_nil _ _ _ _), Lib.hid (Below.refl _ _)⟩
  case round =>
    obtain ⟨j, hgk, hj, rfl, HO, HW⟩ := hrel
    have HG := Lib.hid hgk
    clear hgk
    by_cases hlt : j < m
    · have cR := rune_any (HI.out.1.same (.of_below HW.out hU)) ((m : Int) - 1 - (j : Int))
      have hra := revR_at s m j hlt
      have htk : (revR s m).take (j + 1) = (revR s m).take j ++ [runeAt (full (pre s m) s.size) ((m : Int) - 1 - (j : Int))] := by rw [List.take_add_one, hra]; rfl
      generalize runeAt (full (pre s m) s.size) ((m : Int) - 1 - (j : Int)) = r at cR htk
      have HT := Lib.hid htk
      have HLT := Lib.hid hlt
      have hi : (0 : Int) ≤ (m : Int) - 1 - (j : Int) := by omega
      have hown := HO.out
      have hwz := HW.out.size
      clear hra htk hlt cL
      go_wp2_with fail
      refine cR.mono ?_
      rintro e w' ⟨rfl, hw⟩
      rw [← hw]
      clear cR hw w'
      go_wp2_with (at_builtin; refine wpList_app _ rfl _ _ 49 rfl w.heap.size 21 elR _ _ _ rfl (hown.alloc _) 0 (wr.heap.size + 1) _ 1 1 [.int .i32 r] rfl (fun h => by cases h) rfl (Rd.new wr _ _ _ (Nat.zero_le _) (by omega)) (by simp [Value.oneCell']) (by unfold maxLen; omega) (by omega) (by simp; omega) ?_; intro v2 W2 hv2 hg2 _ _)
      have hW2 := (HW.out.alloc HW.out.size _).grown hg2 (by simp; omega) (fun k hk => (hown.lt k hk).1)
      have hfin : W2.ownsRow w.heap.size 21 1 v2 (j + 1) (i32s ((revR s m).take (j + 1))) := by
        rw [HT.out]
        simpa [i32s] using hv2
      have HO2 := Lib.hid hfin
      have HW2 := Lib.hid hW2
      clear hv2 hg2 hW2 hfin hown
      go_roundg (m + 1 - (j + 1))
      case measure => have := HG.out; have := HLT.out; omega
      case rel => exact ⟨j + 1, rfl, by have := HLT.out; omega, by go_num, HO2, HW2⟩
    · have hjm : j = m := by omega
      subst hjm
      have hi : ¬ (0 : Int) ≤ (j : Int) - 1 - (j : Int) := by omega
      have ho := HO.out
      rw [List.take_of_length_le (by rw [revR_len]; omega)] at ho
      have hcv := conv_rs ho (revR_scalar s j)
      have hsz : (encS (revR s j)).size ≤ 262144 := by
        have := (encL_len (revR s j)).2
        rw [revR_len] at this
        rw [encS_size]; omega
      have c2 : wr.cell? ⟨g, 2, none⟩ = some (.int .i64 k) := (HW.out.cell (p := ⟨g, 2, none⟩) hgl).trans HI.out.2
      have HCNT := Lib.hid (enc_cnt (revR_scalar s j))
      generalize hSS : encS (revR s j) = S at hcv hsz HCNT
      have HSS := Lib.hid hSS
      clear hSS
      obtain ⟨C, W1, hcb, hb1, hz1, hR1, hC1, hC2⟩ := bytes_conv wr S (by unfold maxLen; omega)
      have c3 : W1.cell? ⟨g, 2, none⟩ = some (.int .i64 k) := (hb1.cell (p := ⟨g, 2, none⟩) (Nat.lt_of_lt_of_le hgl HW.out.size)).trans c2
      have hwz := HW.out.size
      have HR1 := Lib.hid hR1
      have HB1 := Lib.hid (HW.out.trans (hb1.mono hwz))
      have HC1 := Lib.hid (And.intro hC1 hC2)
      have HZ1 := Lib.hid hz1
      clear ho HO hlt cL c2 hb1 hR1 hC1 hC2 hz1
      have hB := Blk.new W1 34 #[.slice none 0 0, .slice (some ⟨wr.heap.size, 0, none⟩) S.size C, .int .i64 k]
      have hd := decode_any hB rfl (by decide) S (by omega)
      have HB := Lib.hid hB
      clear hB
      go_wp2_with fail
      refine hd.mono ?_
      rintro e W2 ⟨rfl, v, n, hcnt, hB2, hO2, hg2⟩
      obtain rfl := hcnt.unique HCNT.out
      have hz2 := hg2.size
      have hbe : Below w.heap.size w W2 := (HB1.out.alloc (by have := HZ1.out; omega) _).grown hg2 (by have := HZ1.out; simp; omega) (fun q hq => by injection hq with hq; have := HZ1.out; omega)
      have hT2 : Rd W2 w.heap.size W2.heap.size (some ⟨wr.heap.size, 0, none⟩) (byteVals S.data.toList) := by
        have h1 := HR1.out.mono (lo' := w.heap.size) hwz (Nat.le_refl _)
        refine (h1.same ?_).mono (Nat.le_refl _) (by simp at hz2; omega)
        exact (((Same.refl _ _ _).alloc (Nat.le_refl _) _).trans (Same.of_grown hg2 (by simp) (fun q hq => by injection hq with hq; omega)))
      have hin2 : InAt W2 w.heap.size W2.heap.size W1.heap.size k (full (pre S (revR s j).length) S.size) S.data.toList := by
        obtain ⟨A, c, rfl, h3, h4⟩ := own_form hO2
        have hc := HC1.out
        have hfl : (full (pre S (revR s j).length) S.size).length = (revR s j).length + 1 := by rw [full_length, pre_length]
        refine ⟨⟨by have := HZ1.out; omega, hB2.lt, A, c, some ⟨wr.heap.size, 0, none⟩, C, by rw [hB2.cell, hfl]; rfl, by rw [hB2.cell, blen]; rfl, Rd.of_own hO2 (by have := HZ1.out; simp; omega) (Nat.le_refl _), hT2, by rw [hfl]; exact h3, h4, by rw [blen]; exact hc.1, hc.2⟩, by rw [hB2.cell]; rfl⟩
      rw [revR_len] at hin2
      have HIN := Lib.hid hin2
      have HBE := Lib.hid hbe
      clear hd hcnt hB2 hO2 hg2 hz2 hbe hT2 hin2
      go_wp2_with fail
      go_ret
      exact ⟨_, rfl, by rw [HSS.out]; exact HIN.out, HBE.out⟩
end Go.Proofs.YtkiljhlbeffnfaaDoor
