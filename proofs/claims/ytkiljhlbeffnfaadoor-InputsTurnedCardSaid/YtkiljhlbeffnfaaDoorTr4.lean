/- InputsTurned: the walk. -/
import Derived.Test.YtkiljhlbeffnfaaDoorTr3
import Derived.Test.YtkiljhlbeffnfaaDoorHeld
namespace Go.Proofs.YtkiljhlbeffnfaaDoor
open Go.RowKit

theorem runes_same {s : ByteArray} {m : Nat} (i : Int) : runeAt (full (pre (encS (revR (encS (revR s m)) m)) m) (encS (revR (encS (revR s m)) m)).size) i = runeAt (full (pre s m) s.size) i := by
  have hl1 := revR_len s m
  have h1 : runesOf (encS (revR s m)) m = revR s m := by
    have := enc_runes (revR_scalar s m)
    rw [hl1] at this
    exact this
  have h2 : revR (encS (revR s m)) m = runesOf s m := by
    unfold revR at h1 ⊢
    rw [h1, List.reverse_reverse]
  have h3 : (pre (encS (revR (encS (revR s m)) m)) m).map (·.1) = runesOf s m := by
    have := enc_runes (revR_scalar (encS (revR s m)) m)
    rw [revR_len, h2] at this
    rw [h2]
    exact this
  by_cases hi : i < 0 ∨ (m : Int) ≤ i
  · rw [runeAt_out _ _ _ (by rw [pre_length]; exact hi), runeAt_out _ _ _ (by rw [pre_length]; exact hi)]
  · obtain ⟨t, rfl⟩ := Int.eq_ofNat_of_zero_le (by omega : 0 ≤ i)
    have e1 := runes_at (pre (encS (revR (encS (revR s m)) m)) m) (encS (revR (encS (revR s m)) m)).size t (by rw [pre_length]; omega)
    have e2 := runes_at (pre s m) s.size t (by rw [pre_length]; omega)
    rw [h3] at e1
    unfold runesOf at e1
    rw [e2] at e1
    injection e1 with e1
    exact e1.symm
theorem bytes_all {s : ByteArray} {m : Nat} (hm : Cnt s m) : bytesOf (full (pre s m) s.size) s.data.toList 0 (m : Int) = s.data.toList := by
  have hl := fullLen s m
  unfold bytesOf
  rw [if_neg (by omega), offAt_full hm (Nat.le_refl _), show (0 : Int) = ((0 : Nat) : Int) from rfl, offAt_full hm (Nat.zero_le _)]
  simp only [Int.toNat_natCast, posN, List.drop_zero]
  rw [hm.1, List.take_of_length_le (by rw [blen]; exact Nat.le_refl _)]

theorem conv_own {w : World} {base n c : Nat} {A : Option Addr} {s : ByteArray} (h : w.ownsRow base 5 1 (.slice A n c) n (byteVals s.data.toList)) : (convert 23 9 (.slice A n c)).run Tryd.prog w = .ok (.string s) w := by
  have hn : s.size = n := by have := h.1; rw [byteVals_length, blen] at this; omega
  refine conv_bs c (Rd.of_own (lo := 0) h (Nat.zero_le _) (Nat.le_refl _)) hn fun hA => ?_
  rcases Nat.eq_zero_or_pos n with h0 | h0
  · exact h0
  · obtain ⟨g, cap, hv, _, _⟩ := h.form h0
    injection hv with hv
    rw [hA] at hv
    cases hv
set_option maxRecDepth 20000 in
set_option maxHeartbeats 4000000 in
theorem turned_walk {w : World} {A : Option Addr} {n c : Nat} {s : ByteArray} (k : Int) (hT : Lib.Utf8Tabs 0 1 w) (hA : BytesIn w A n c s) :
    Calls Tryd.prog 8 #[.int .i64 k, .slice A n c] w fun e w' => e = .returned (.bool true) ∧ Below w.heap.size w w' := by
  have cH := head_any hT
  by_cases hok : (1 ≤ k ∧ k ≤ 3) ∧ n ≤ 65536
  · go_enter Tryd.func8, Tryd.ntmps8
    go_wp2_with fail
    refine cH.mono ?_
    rintro e w1 ⟨rfl, hb1⟩
    have hA1 := hA.below hb1
    have cB := both_okK k hok.1 (tabs_below hT hb1) hA1.rd (Nat.le_refl _) hA1.size hA1.le hA1.max hA1.nil hok.2
    have hsn := hA.size
    clear cH hT hA hA1
    go_wp2_with fail
    refine cB.mono ?_
    rintro e w2 ⟨g, g', m, lo, U, lo', U', hm, rfl, h1, h2, h3, h4, hin, href, hk0, hb2⟩
    have hms : m ≤ 65536 := by have := hm.le; omega
    have hbe := hb1.trans (hb2.mono hb1.size)
    have cT := turned_any hin h3 hms
    have HB := Lib.hid hbe
    have HM := Lib.hid hm
    have HI := Lib.hid hin
    have HR := Lib.hid href
    have HK := Lib.hid hk0
    clear hb1 hb2 hbe hin href cB hm hsn hok hk0
    go_wp2_with fail
    refine cT.mono ?_
    rintro e w3 ⟨ga, rfl, hia, hb3⟩
    have cU := refTurned_any (HR.out.same (.of_below hb3 h4)) ((hb3.cell (p := ⟨g', 0, none⟩) (Nat.lt_of_lt_of_le HR.out.2.1 h4)).trans HK.out) (Nat.le_trans h4 hb3.size) hms
    have HIA := Lib.hid hia
    have HB3 := Lib.hid hb3
    clear cT hia hb3
    go_wp2_with fail
    refine cU.mono ?_
    rintro e w4 ⟨gb, rfl, hrb, hb4⟩
    have HRB := Lib.hid hrb
    have HB4 := Lib.hid hb4
    clear cU hrb hb4
    have hsl := revR_len s m
    have hSc := enc_cnt (revR_scalar s m)
    rw [hsl] at hSc
    have hss : (encS (revR s m)).size ≤ 262144 := by
      have := (encL_len (revR s m)).2
      rw [hsl] at this
      rw [encS_size]; omega
    have hrs := fun i => runes_same (s := s) (m := m) i
    have HRS := Lib.hid hrs
    generalize hSS : encS (revR s m) = S at HIA HRB hSc hss HRS
    have HSS := Lib.hid hSS
    have HSC := Lib.hid hSc
    clear hSS hsl hSc hrs
    go_upto_region 7 with fail
    go_cut [72] (fun s72 wx => s72 = .bool false ∧ Hid (Below w4.heap.size w4 wx))
    case first =>
      have hX : InAt w4.drew w2.heap.size w3.heap.size ga k (full (pre S m) S.size) S.data.toList := (HIA.out.same (.of_below HB4.out (Nat.le_refl _))).same (Same.refl _ _ _).drew
      have hY : RefAt w4.drew w3.heap.size w4.heap.size gb (pre S m) S.size S.data.toList := HRB.out.same (Same.refl _ _ _).drew
      have cK := kind_any k hX.2
      have cL := len_any hX.1
      rw [fullLen, show ((m + 1 : Nat) : Int) - 1 = m by omega] at cL
      have cD := refLen_any hY
      rw [pre_length] at cD
      have cB := bytes_any hX.1 HB4.out.size (full_fits HSC.out) (by rw [blen]; omega) 0 (m : Int)
      rw [bytes_all HSC.out] at cB
      obtain ⟨_, hgU, B, bc, R, rc, O, oc, hc1, _, _, hB, _, _, hb1, hb2, _, _⟩ := hY
      rw [blen] at hc1 hb1
      have hBn : B = none → S.size = 0 := fun h => by
        rcases Nat.eq_zero_or_pos S.size with h0 | h0
        · exact h0
        · obtain ⟨_, _, h3, _⟩ := hB (by rw [byteVals_length, blen]; exact h0)
          rw [h3] at h; cases h
      have hcb : ∀ W, Same w3.heap.size w4.heap.size w4.drew W → (convert 23 9 (.slice B S.size bc)).run Tryd.prog W = .ok (.string S) W := fun W hW => conv_bs bc (hB.same hW) rfl hBn
      have j0 := hcb w4.drew (Same.refl _ _ _)
      have j1 : ∀ W, Same w3.heap.size w4.heap.size w4.drew W → W.cell? ⟨gb, 1, none⟩ = some (.slice B S.size bc) := fun W hW => (hW.cell (p := ⟨gb, 1, none⟩) HRB.out.1 hgU).trans hc1
      have j2 : w4.cell? ⟨gb, 1, none⟩ = some (.slice B S.size bc) := j1 w4 ((Same.refl _ _ _))
      have HCB := Lib.hid hcb
      have HJ1 := Lib.hid j1
      clear hX hB hBn hcb j1 hb1 hb2 hc1
      have hS := And.intro (HJ1.out w4.drew (Same.refl _ _ _)) j0
      clear j0 j2
      refine wp_region_T (S := fun w' => w'.cell? ⟨gb, 1, none⟩ = some (.slice B S.size bc) ∧ (convert 23 9 (.slice B S.size bc)).run Tryd.prog w' = .ok (.string S) w') (t := 34) (by kernel_rfl) ?_
      refine wpAnyT_take (i := 0) (v := ?_) rfl (by kernel_rfl) (by kernel_rfl) (by kernel_rfl) (fun _ _ _ h => h) (by kernel_rfl) (Or.inl ⟨by rfl, ?_⟩) hS ?_
      rotate_left
      · (intro w _; go_simp; try with_reducible rfl)
      try simp only [Array.getInternal_eq_getElem, List.getElem_toArray, List.getElem_cons_succ, List.getElem_cons_zero, Act.put, List.setIfInBounds_toArray, List.set_cons_zero, List.set_cons_succ]
      refine wpAnyT_take (i := 1) (v := ?_) rfl (by kernel_rfl) (by kernel_rfl) (by kernel_rfl) (fun _ _ _ h => h) (by kernel_rfl) (Or.inl ⟨by rfl, ?_⟩) hS ?_
      rotate_left
      · (intro w _; go_simp; try with_reducible rfl)
      try simp only [Array.getInternal_eq_getElem, List.getElem_toArray, List.getElem_cons_succ, List.getElem_cons_zero, Act.put, List.setIfInBounds_toArray, List.set_cons_zero, List.set_cons_succ]
      refine wpAnyT_take (i := 2) (v := ?_) rfl (by kernel_rfl) (by kernel_rfl) (by kernel_rfl) (fun _ _ _ h => h) (by kernel_rfl) (Or.inl ⟨by rfl, ?_⟩) hS ?_
      rotate_left
      · (intro w _; go_simp; try with_reducible rfl)
      try simp only [Array.getInternal_eq_getElem, List.getElem_toArray, List.getElem_cons_succ, List.getElem_cons_zero, Act.put, List.setIfInBounds_toArray, List.set_cons_zero, List.set_cons_succ]
      refine wpAnyT_take (i := 3) (v := ?_) rfl (by kernel_rfl) (by kernel_rfl) (by kernel_rfl) (fun _ _ _ h => h) (by kernel_rfl) (Or.inl ⟨by rfl, ?_⟩) hS ?_
      rotate_left
      · (intro w _; go_simp; try with_reducible rfl)
      try simp only [Array.getInternal_eq_getElem, List.getElem_toArray, List.getElem_cons_succ, List.getElem_cons_zero, Act.put, List.setIfInBounds_toArray, List.set_cons_zero, List.set_cons_succ]
      refine wpAnyT_take (i := 5) (v := ?_) rfl (by kernel_rfl) (by kernel_rfl) (by kernel_rfl) (fun _ _ _ h => h) (by kernel_rfl) (Or.inl ⟨by rfl, ?_⟩) hS ?_
      rotate_left
      · (intro w _; go_simp; try with_reducible rfl)
      try simp only [Array.getInternal_eq_getElem, List.getElem_toArray, List.getElem_cons_succ, List.getElem_cons_zero, Act.put, List.setIfInBounds_toArray, List.set_cons_zero, List.set_cons_succ]
      refine wpAnyT_one (i := 4) (by kernel_rfl) rfl (fun K hK => ?_)
      go_simp
      refine cK.mono ?_
      rintro e w' ⟨rfl, rfl⟩
      go_simp
      refine hK _ _ (Or.inr hS) ?_
      clear hK K
      try simp only [Array.getInternal_eq_getElem, List.getElem_toArray, List.getElem_cons_succ, List.getElem_cons_zero, Act.put, List.setIfInBounds_toArray, List.set_cons_zero, List.set_cons_succ]
      refine wpAnyT_take (i := 6) (v := ?_) rfl (by kernel_rfl) (by kernel_rfl) (by kernel_rfl) (fun _ _ _ h => h) (by kernel_rfl) (Or.inl ⟨by rfl, ?_⟩) hS ?_
      rotate_left
      · (intro w _; go_simp; try with_reducible rfl)
      try simp only [Array.getInternal_eq_getElem, List.getElem_toArray, List.getElem_cons_succ, List.getElem_cons_zero, Act.put, List.setIfInBounds_toArray, List.set_cons_zero, List.set_cons_succ]
      refine wpAnyT_take (i := 7) (v := ?_) rfl (by kernel_rfl) (by kernel_rfl) (by kernel_rfl) (fun _ _ _ h => h) (by kernel_rfl) (Or.inl ⟨by rfl, ?_⟩) hS ?_
      rotate_left
      · (intro w _; go_simp; try with_reducible rfl)
      try simp only [Array.getInternal_eq_getElem, List.getElem_toArray, List.getElem_cons_succ, List.getElem_cons_zero, Act.put, List.setIfInBounds_toArray, List.set_cons_zero, List.set_cons_succ]
      refine wpAnyT_take (i := 8) (v := ?_) rfl (by kernel_rfl) (by kernel_rfl) (by kernel_rfl) (fun _ _ _ h => h) (by kernel_rfl) (Or.inl ⟨by rfl, ?_⟩) hS ?_
      rotate_left
      · (intro w _; go_simp; try with_reducible rfl)
      try simp only [Array.getInternal_eq_getElem, List.getElem_toArray, List.getElem_cons_succ, List.getElem_cons_zero, Act.put, List.setIfInBounds_toArray, List.set_cons_zero, List.set_cons_succ]
      refine wpAnyT_take (i := 9) (v := ?_) rfl (by kernel_rfl) (by kernel_rfl) (by kernel_rfl) (fun _ _ _ h => h) (by kernel_rfl) (Or.inl ⟨by rfl, ?_⟩) hS ?_
      rotate_left
      · (intro w _; go_simp; try with_reducible rfl)
      try simp only [Array.getInternal_eq_getElem, List.getElem_toArray, List.getElem_cons_succ, List.getElem_cons_zero, Act.put, List.setIfInBounds_toArray, List.set_cons_zero, List.set_cons_succ]
      refine wpAnyT_take (i := 10) (v := ?_) rfl (by kernel_rfl) (by kernel_rfl) (by kernel_rfl) (fun _ _ _ h => h) (by kernel_rfl) (Or.inl ⟨by rfl, ?_⟩) hS ?_
      rotate_left
      · (intro w _; go_simp; try with_reducible rfl)
      try simp only [Array.getInternal_eq_getElem, List.getElem_toArray, List.getElem_cons_succ, List.getElem_cons_zero, Act.put, List.setIfInBounds_toArray, List.set_cons_zero, List.set_cons_succ]
      refine wpAnyT_take (i := 11) (v := ?_) rfl (by kernel_rfl) (by kernel_rfl) (by kernel_rfl) (fun _ _ _ h => h) (by kernel_rfl) (Or.inl ⟨by rfl, ?_⟩) hS ?_
      rotate_left
      · (intro w _; go_simp; try with_reducible rfl)
      try simp only [Array.getInternal_eq_getElem, List.getElem_toArray, List.getElem_cons_succ, List.getElem_cons_zero, Act.put, List.setIfInBounds_toArray, List.set_cons_zero, List.set_cons_succ]
      refine wpAnyT_take (i := 13) (v := ?_) rfl (by kernel_rfl) (by kernel_rfl) (by kernel_rfl) (fun _ _ _ h => h) (by kernel_rfl) (Or.inl ⟨by rfl, ?_⟩) hS ?_
      rotate_left
      · (intro w _; go_simp; try with_reducible rfl)
      try simp only [Array.getInternal_eq_getElem, List.getElem_toArray, List.getElem_cons_succ, List.getElem_cons_zero, Act.put, List.setIfInBounds_toArray, List.set_cons_zero, List.set_cons_succ]
      refine wpAnyT_one (i := 12) (by kernel_rfl) rfl (fun K hK => ?_)
      go_simp
      refine cL.mono ?_
      rintro e w' ⟨rfl, rfl⟩
      go_simp
      refine hK _ _ (Or.inr hS) ?_
      clear hK K
      try simp only [Array.getInternal_eq_getElem, List.getElem_toArray, List.getElem_cons_succ, List.getElem_cons_zero, Act.put, List.setIfInBounds_toArray, List.set_cons_zero, List.set_cons_succ]
      refine wpAnyT_one (i := 14) (by kernel_rfl) rfl (fun K hK => ?_)
      go_simp
      refine cD.mono ?_
      rintro e w' ⟨rfl, rfl⟩
      go_simp
      refine hK _ _ (Or.inr hS) ?_
      clear hK K
      try simp only [Array.getInternal_eq_getElem, List.getElem_toArray, List.getElem_cons_succ, List.getElem_cons_zero, Act.put, List.setIfInBounds_toArray, List.set_cons_zero, List.set_cons_succ]
      refine wpAnyT_take (i := 15) (v := ?_) rfl (by kernel_rfl) (by kernel_rfl) (by kernel_rfl) (fun _ _ _ h => h) (by kernel_rfl) (Or.inl ⟨by rfl, ?_⟩) hS ?_
      rotate_left
      · (intro w _; go_simp; try with_reducible rfl)
      try simp only [Array.getInternal_eq_getElem, List.getElem_toArray, List.getElem_cons_succ, List.getElem_cons_zero, Act.put, List.setIfInBounds_toArray, List.set_cons_zero, List.set_cons_succ]
      refine wpAnyT_take (i := 16) (v := ?_) rfl (by kernel_rfl) (by kernel_rfl) (by kernel_rfl) (fun _ _ _ h => h) (by kernel_rfl) (Or.inl ⟨by rfl, ?_⟩) hS ?_
      rotate_left
      · (intro w _; go_simp; try with_reducible rfl)
      try simp only [Array.getInternal_eq_getElem, List.getElem_toArray, List.getElem_cons_succ, List.getElem_cons_zero, Act.put, List.setIfInBounds_toArray, List.set_cons_zero, List.set_cons_succ]
      refine wpAnyT_take (i := 17) (v := ?_) rfl (by kernel_rfl) (by kernel_rfl) (by kernel_rfl) (fun _ _ _ h => h) (by kernel_rfl) (Or.inl ⟨by rfl, ?_⟩) hS ?_
      rotate_left
      · (intro w _; go_simp; try with_reducible rfl)
      try simp only [Array.getInternal_eq_getElem, List.getElem_toArray, List.getElem_cons_succ, List.getElem_cons_zero, Act.put, List.setIfInBounds_toArray, List.set_cons_zero, List.set_cons_succ]
      refine wpAnyT_take (i := 18) (v := ?_) rfl (by kernel_rfl) (by kernel_rfl) (by kernel_rfl) (fun _ _ _ h => h) (by kernel_rfl) (Or.inl ⟨by rfl, ?_⟩) hS ?_
      rotate_left
      · (intro w _; go_simp; try with_reducible rfl)
      try simp only [Array.getInternal_eq_getElem, List.getElem_toArray, List.getElem_cons_succ, List.getElem_cons_zero, Act.put, List.setIfInBounds_toArray, List.set_cons_zero, List.set_cons_succ]
      refine wpAnyT_take (i := 19) (v := ?_) rfl (by kernel_rfl) (by kernel_rfl) (by kernel_rfl) (fun _ _ _ h => h) (by kernel_rfl) (Or.inl ⟨by rfl, ?_⟩) hS ?_
      rotate_left
      · (intro w _; go_simp; try with_reducible rfl)
      try simp only [Array.getInternal_eq_getElem, List.getElem_toArray, List.getElem_cons_succ, List.getElem_cons_zero, Act.put, List.setIfInBounds_toArray, List.set_cons_zero, List.set_cons_succ]
      refine wpAnyT_take (i := 20) (v := ?_) rfl (by kernel_rfl) (by kernel_rfl) (by kernel_rfl) (fun _ _ _ h => h) (by kernel_rfl) (Or.inl ⟨by rfl, ?_⟩) hS ?_
      rotate_left
      · (intro w _; go_simp; try with_reducible rfl)
      try simp only [Array.getInternal_eq_getElem, List.getElem_toArray, List.getElem_cons_succ, List.getElem_cons_zero, Act.put, List.setIfInBounds_toArray, List.set_cons_zero, List.set_cons_succ]
      refine wpAnyT_take (i := 21) (v := ?_) rfl (by kernel_rfl) (by kernel_rfl) (by kernel_rfl) (fun _ _ _ h => h) (by kernel_rfl) (Or.inl ⟨by rfl, ?_⟩) hS ?_
      rotate_left
      · (intro w _; go_simp; try with_reducible rfl)
      try simp only [Array.getInternal_eq_getElem, List.getElem_toArray, List.getElem_cons_succ, List.getElem_cons_zero, Act.put, List.setIfInBounds_toArray, List.set_cons_zero, List.set_cons_succ]
      refine wpAnyT_take (i := 22) (v := ?_) rfl (by kernel_rfl) (by kernel_rfl) (by kernel_rfl) (fun _ _ _ h => h) (by kernel_rfl) (Or.inl ⟨by rfl, ?_⟩) hS ?_
      rotate_left
      · (intro w _; go_simp; try with_reducible rfl)
      try simp only [Array.getInternal_eq_getElem, List.getElem_toArray, List.getElem_cons_succ, List.getElem_cons_zero, Act.put, List.setIfInBounds_toArray, List.set_cons_zero, List.set_cons_succ]
      refine wpAnyT_take (i := 23) (v := ?_) rfl (by kernel_rfl) (by kernel_rfl) (by kernel_rfl) (fun _ _ _ h => h) (by kernel_rfl) (Or.inl ⟨by rfl, ?_⟩) hS ?_
      rotate_left
      · (intro w _; go_simp; try with_reducible rfl)
      try simp only [Array.getInternal_eq_getElem, List.getElem_toArray, List.getElem_cons_succ, List.getElem_cons_zero, Act.put, List.setIfInBounds_toArray, List.set_cons_zero, List.set_cons_succ]
      refine wpAnyT_take (i := 27) (v := ?_) rfl (by kernel_rfl) (by kernel_rfl) (by kernel_rfl) (fun _ _ _ h => h) (by kernel_rfl) (Or.inl ⟨by rfl, ?_⟩) hS ?_
      rotate_left
      · (intro w _; go_simp; try with_reducible rfl)
      try simp only [Array.getInternal_eq_getElem, List.getElem_toArray, List.getElem_cons_succ, List.getElem_cons_zero, Act.put, List.setIfInBounds_toArray, List.set_cons_zero, List.set_cons_succ]
      refine wpAnyT_take (i := 28) (v := ?_) rfl (by kernel_rfl) (by kernel_rfl) (by kernel_rfl) (fun _ _ _ h => h) (by kernel_rfl) (Or.inl ⟨by rfl, ?_⟩) hS ?_
      rotate_left
      · (intro w _; go_simp; try with_reducible rfl)
      try simp only [Array.getInternal_eq_getElem, List.getElem_toArray, List.getElem_cons_succ, List.getElem_cons_zero, Act.put, List.setIfInBounds_toArray, List.set_cons_zero, List.set_cons_succ]
      refine wpAnyT_take (i := 29) (v := ?_) rfl (by kernel_rfl) (by kernel_rfl) (by kernel_rfl) (fun _ _ _ h => h) (by kernel_rfl) (Or.inl ⟨by rfl, ?_⟩) hS ?_
      rotate_left
      · (intro w _; go_simp; try with_reducible rfl)
      try simp only [Array.getInternal_eq_getElem, List.getElem_toArray, List.getElem_cons_succ, List.getElem_cons_zero, Act.put, List.setIfInBounds_toArray, List.set_cons_zero, List.set_cons_succ]
      refine wpAnyT_take (i := 30) (v := ?_) rfl (by kernel_rfl) (by kernel_rfl) (by kernel_rfl) (fun _ _ _ h => h) (by kernel_rfl) (Or.inl ⟨by rfl, ?_⟩) hS ?_
      rotate_left
      · (intro w hS; obtain ⟨s1, s2⟩ := hS; go_simp; try with_reducible rfl)
      try simp only [Array.getInternal_eq_getElem, List.getElem_toArray, List.getElem_cons_succ, List.getElem_cons_zero, Act.put, List.setIfInBounds_toArray, List.set_cons_zero, List.set_cons_succ]
      refine wpAnyT_take (i := 31) (v := ?_) rfl (by kernel_rfl) (by kernel_rfl) (by kernel_rfl) (fun _ _ _ h => h) (by kernel_rfl) (Or.inl ⟨by rfl, ?_⟩) hS ?_
      rotate_left
      · (intro w hS; obtain ⟨s1, s2⟩ := hS; go_simp; try with_reducible rfl)
      try simp only [Array.getInternal_eq_getElem, List.getElem_toArray, List.getElem_cons_succ, List.getElem_cons_zero, Act.put, List.setIfInBounds_toArray, List.set_cons_zero, List.set_cons_succ]
      refine wpAnyT_one (i := 24) (by kernel_rfl) rfl (fun K hK => ?_)
      go_simp
      refine cL.mono ?_
      rintro e w' ⟨rfl, rfl⟩
      go_simp
      refine hK _ _ (Or.inr hS) ?_
      clear hK K
      try simp only [Array.getInternal_eq_getElem, List.getElem_toArray, List.getElem_cons_succ, List.getElem_cons_zero, Act.put, List.setIfInBounds_toArray, List.set_cons_zero, List.set_cons_succ]
      refine wpAnyT_one (i := 25) (by kernel_rfl) rfl (fun K hK => ?_)
      go_simp
      refine cB.mono ?_
      rintro e W5 ⟨v, rfl, hown, hb5⟩
      rw [blen] at hown
      obtain ⟨A5, c5, rfl, _, _⟩ := own_form hown
      have i3 := conv_own hown
      have HB5 := Lib.hid hb5
      have hs5 := And.intro (HJ1.out W5 (.of_below hb5 (Nat.le_refl _))) (HCB.out W5 (.of_below hb5 (Nat.le_refl _)))
      clear hown hb5
      go_simp
      replace hS := hs5
      refine hK _ _ (Or.inr hS) ?_
      clear hK K
      try simp only [Array.getInternal_eq_getElem, List.getElem_toArray, List.getElem_cons_succ, List.getElem_cons_zero, Act.put, List.setIfInBounds_toArray, List.set_cons_zero, List.set_cons_succ]
      refine wpAnyT_one (i := 26) (by kernel_rfl) rfl (fun K hK => ?_)
      go_simp
      refine hK _ _ (Or.inr hS) ?_
      clear hK K
      try simp only [Array.getInternal_eq_getElem, List.getElem_toArray, List.getElem_cons_succ, List.getElem_cons_zero, Act.put, List.setIfInBounds_toArray, List.set_cons_zero, List.set_cons_succ]
      refine wpAnyT_take (i := 32) (v := ?_) rfl (by kernel_rfl) (by kernel_rfl) (by kernel_rfl) (fun _ _ _ h => h) (by kernel_rfl) (Or.inl ⟨by rfl, ?_⟩) hS ?_
      rotate_left
      · (intro w _; go_simp; try with_reducible rfl)
      try simp only [Array.getInternal_eq_getElem, List.getElem_toArray, List.getElem_cons_succ, List.getElem_cons_zero, Act.put, List.setIfInBounds_toArray, List.set_cons_zero, List.set_cons_succ]
      refine wpAnyT_take (i := 33) (v := ?_) rfl (by kernel_rfl) (by kernel_rfl) (by kernel_rfl) (fun _ _ _ h => h) (by kernel_rfl) (Or.inl ⟨by rfl, ?_⟩) hS ?_
      rotate_left
      · (intro w _; go_simp; try with_reducible rfl)
      try simp only [Array.getInternal_eq_getElem, List.getElem_toArray, List.getElem_cons_succ, List.getElem_cons_zero, Act.put, List.setIfInBounds_toArray, List.set_cons_zero, List.set_cons_succ]
      refine wpAnyT_done (by kernel_rfl) ?_ _
      go_wp2_with fail
      go_meet
      exact ⟨rfl, Lib.hid ⟨HB5.out.os, HB5.out.tape, HB5.out.output, HB5.out.size, HB5.out.block⟩⟩
    case rest =>
      obtain ⟨rfl, HW⟩ := hcut
      have hia : InAt wc w2.heap.size w3.heap.size ga k (full (pre S m) S.size) S.data.toList := (HIA.out.same (.of_below HB4.out (Nat.le_refl _))).same (.of_below HW.out (Nat.le_trans (by have := HB4.out.size; omega) (Nat.le_refl _)))
      have hU3 : w3.heap.size ≤ wc.heap.size := by have := HB4.out.size; have := HW.out.size; omega
      have cT := turned_any hia hU3 hms
      have HIA2 := Lib.hid hia
      clear hia
      go_wp2_with fail
      refine cT.mono ?_
      rintro e w6 ⟨gc, rfl, hic, hb6⟩
      have HIC := Lib.hid hic
      have HB6 := Lib.hid hb6
      have hX : InAt w6 w2.heap.size w3.heap.size ga k (full (pre S m) S.size) S.data.toList := HIA2.out.same (.of_below hb6 hU3)
      have hbe6 : Below w4.heap.size w4 w6 := HW.out.trans (hb6.mono HW.out.size)
      have hY : RefAt w6 w3.heap.size w4.heap.size gb (pre S m) S.size S.data.toList := HRB.out.same (.of_below hbe6 (Nat.le_refl _))
      have hb26 : Below w2.heap.size w2 w6 := (HB3.out.trans (HB4.out.mono HB3.out.size)).trans (hbe6.mono (by have := HB3.out.size; have := HB4.out.size; omega))
      have hZ : RefAt w6 lo' U' g' (pre s m) s.size s.data.toList := HR.out.same (.of_below hb26 h4)
      have HX := Lib.hid hX
      have HY := Lib.hid hY
      have HZ := Lib.hid hZ
      have HBF := Lib.hid (HB.out.trans (hb26.mono HB.out.size))
      have cLc := len_any hic.1
      rw [fullLen, show ((m + 1 : Nat) : Int) - 1 = m by omega] at cLc
      have cLd := refLen_any hZ
      rw [pre_length] at cLd
      have cLb := fun d => refLen_any (hY.drewN d)
      rw [pre_length] at cLb
      clear cT hic hb6 hX hbe6 hY hb26 hZ hU3 HIA HIA2 HW HB3 HB4 HB6 HB HI HR HK HRB h1 h2 h3 h4
      go_wp2_with fail
      refine cLc.mono ?_
      rintro e w' ⟨rfl, hw⟩
      rw [← hw]
      clear hw w' cLc
      go_wp2_with fail
      refine cLd.mono ?_
      rintro e w' ⟨rfl, hw⟩
      rw [← hw]
      clear hw w' cLd
      go_wp2_with fail
      go_loopg [12] (m + 4) (fun q i wr => ∃ (j : Nat) (d : Nat), q = m + 4 - j ∧ j ≤ m + 3 ∧ i = .int .i64 ((j : Int) - 1) ∧ wr = w6.drewN d)
      case atStart => exact ⟨0, 0, rfl, by omega, by go_num, rfl⟩
      case round =>
        obtain ⟨j, d, hgk, hj, rfl, rfl⟩ := hrel
        have HG := Lib.hid hgk
        have cL := cLb d
        clear hgk cLb
        by_cases hlt : j ≤ m + 2
        · have c1 := rune_any (HX.out.1.drewN d) ((j : Int) - 1)
          have c2 := refRune_any (HY.out.drewN d) ((j : Int) - 1)
          have c3 := off_any (HX.out.1.drewN d) ((j : Int) - 1)
          have c4 := refOff_any (HY.out.drewN d) ((j : Int) - 1)
          have c5 := at_any (HX.out.1.drewN d) ((j : Int) - 1) (by omega)
          have c6 := fun d => refAt_any (HY.out.drewN d) (pre_nonneg S m) ((j : Int) - 1)
          have c7 := fun d => rune_any (HIC.out.1.drewN d) ((j : Int) - 1)
          have c8 := fun d => refRune_any (HZ.out.drewN d) ((j : Int) - 1)
          have hr := HRS.out ((j : Int) - 1)
          rw [hr] at c7
          clear hr HIC HX HY HZ HRS
          generalize runeAt (full (pre S m) S.size) ((j : Int) - 1) = v1 at c1 c2
          generalize offAt (full (pre S m) S.size) ((j : Int) - 1) = v2 at c3 c4
          generalize atAt (full (pre S m) S.size) ((j : Int) - 1) = v3 at c5 c6
          generalize runeAt (full (pre s m) s.size) ((j : Int) - 1) = v4 at c7 c8
          go_wp2_with fail
          refine cL.mono ?_
          rintro e w' ⟨rfl, hw⟩
          rw [← hw]
          clear hw w' cL
          go_wp2_with fail
          refine c1.mono ?_
          rintro e w' ⟨rfl, hw⟩
          rw [← hw]
          clear hw w' c1
          go_wp2_with fail
          refine c2.mono ?_
          rintro e w' ⟨rfl, hw⟩
          rw [← hw]
          clear hw w' c2
          go_wp2_with fail
          refine c3.mono ?_
          rintro e w' ⟨rfl, hw⟩
          rw [← hw]
          clear hw w' c3
          go_wp2_with fail
          refine c4.mono ?_
          rintro e w' ⟨rfl, hw⟩
          rw [← hw]
          clear hw w' c4
          go_wp2_with fail
          refine c5.mono ?_
          rintro e w' ⟨rfl, d', rfl⟩
          clear c5
          go_wp2_with fail
          refine (c6 _).mono ?_
          rintro e w' ⟨rfl, hw⟩
          rw [← hw]
          clear hw w' c6
          go_wp2_with fail
          refine (c7 _).mono ?_
          rintro e w' ⟨rfl, hw⟩
          rw [← hw]
          clear hw w' c7
          go_wp2_with fail
          refine (c8 _).mono ?_
          rintro e w' ⟨rfl, hw⟩
          rw [← hw]
          clear hw w' c8
          go_wp2_with fail
          go_roundg (m + 4 - (j + 1))
          case measure => have := HG.out; omega
          case rel => exact ⟨j + 1, _, rfl, by omega, by go_num, rfl⟩
        · go_wp2_with fail
          refine cL.mono ?_
          rintro e w' ⟨rfl, hw⟩
          rw [← hw]
          clear hw w' cL
          go_wp2_with fail
          go_ret
          exact ⟨rfl, HBF.out.drewN⟩
  · go_enter Tryd.func8, Tryd.ntmps8
    go_wp2_with fail
    refine cH.mono ?_
    rintro e w1 ⟨rfl, hb1⟩
    have hA1 := hA.below hb1
    have cB := both_no k hA1.rd (Nat.le_refl _) hA1.size hA1.le hA1.max hA1.nil hA1.reach (by omega)
    clear cH hT hA hA1
    go_wp2_with fail
    refine cB.mono ?_
    rintro e w2 ⟨rfl, hb2⟩
    have HB := Lib.hid (hb1.trans (hb2.mono hb1.size))
    clear hb1 hb2 cB
    go_wp2_with fail
    go_ret
    exact ⟨rfl, HB.out⟩
end Go.Proofs.YtkiljhlbeffnfaaDoor
