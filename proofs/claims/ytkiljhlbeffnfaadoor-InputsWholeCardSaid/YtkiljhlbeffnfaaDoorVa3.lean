/- unicode/utf8.Valid: what it says yes to is rightly written: the walk. -/
import Derived.Test.YtkiljhlbeffnfaaDoorVa2
import Derived.Deep.Cut
import Derived.BigQuiet
namespace Go.Proofs.YtkiljhlbeffnfaaDoor
open Go.RowKit

theorem rdcut {w : World} {lo U b off m q k : Nat} {s : ByteArray} (h : Rd w lo U (some ⟨b, off, none⟩) (byteVals (s.data.toList.drop q))) (hm : q + m = s.size) (hkm : k ≤ m) : Rd w lo U (if m = k then some ⟨b, off, none⟩ else some ⟨b, off + k, none⟩) (byteVals (s.data.toList.drop (q + k))) := by
  have h1 := h.cut1 (n := m) (k := k) (c := m) (by rw [byteVals_length, List.length_drop, blen]; omega) hkm (Nat.le_refl _)
  have h2 : (byteVals (s.data.toList.drop q)).drop k = byteVals (s.data.toList.drop (q + k)) := by unfold byteVals; rw [← List.map_drop, List.drop_drop]
  rw [h2] at h1
  by_cases he : m = k
  · rw [if_pos he] at h1 ⊢; exact h1
  · rw [if_neg he] at h1 ⊢
    intro hp
    obtain ⟨b', o', e1, x1, x2, x3⟩ := h1 hp
    refine ⟨b', o', ?_, x1, x2, x3⟩
    rw [← e1]
    simp only [Option.map_some, Addr.add]
    split <;> simp_all
theorem rdcut_lt {w : World} {lo U b off m q k : Nat} {s : ByteArray} (h : Rd w lo U (some ⟨b, off, none⟩) (byteVals (s.data.toList.drop q))) (hm : q + m = s.size) (hkm : k < m) {o : Nat} (ho : off + k = o) : Rd w lo U (some ⟨b, o, none⟩) (byteVals (s.data.toList.drop (q + k))) := by
  have := rdcut h hm (k := k) (by omega)
  rw [if_neg (by omega), ho] at this
  exact this
/-- The bytes that lie there. -/
theorem rdcells {w : World} {U b off m q : Nat} {s : ByteArray} (h : Rd w 0 U (some ⟨b, off, none⟩) (byteVals (s.data.toList.drop q))) (hm : q + m = s.size) (h0 : 0 < m) (hU : U ≤ w.heap.size) : b < U ∧ ∀ V, Below w.heap.size w V → ∀ j, j < m → V.cell? ⟨b, off + j, none⟩ = some (.int .u8 ((s.get! (q + j)).toNat : Int)) := by
  obtain ⟨b', o', he, _, hlt, hc⟩ := h (by rw [byteVals_length, List.length_drop, blen]; omega)
  injection he with he
  injection he with e1 e2 _
  subst e1
  subst e2
  refine ⟨hlt, fun V hV j hj => ?_⟩
  rw [hV.cell (p := ⟨b, off + j, none⟩) (by show b < _; omega)]
  refine hc j _ ?_
  unfold byteVals
  rw [List.getElem?_map, List.getElem?_drop, get_list s (by omega)]
  rfl
/-- A lead byte of sz bytes, by the two tables. -/
def LeadT (x0 sz : Nat) (R : Nat → Nat → Prop) : Prop := ∃ F I lo hi : Nat, Lib.firstT x0 = F ∧ bits BinOp.and IntKind.u8 (F : Int) 7 = (sz : Int) ∧ (F : Int) / 16 = (I : Int) ∧ I < 16 ∧ Lib.accLo I = lo ∧ Lib.accHi I = hi ∧ 128 ≤ lo ∧ hi ≤ 191 ∧ R lo hi
theorem first_cases (x0 : Nat) : x0 < 128 ∨ Lib.firstT x0 = 241 ∨ LeadT x0 2 (fun _ _ => 194 ≤ x0 ∧ x0 ≤ 223) ∨
    LeadT x0 3 (fun lo hi => 224 ≤ x0 ∧ x0 ≤ 239 ∧ (x0 = 224 → 160 ≤ lo) ∧ (x0 = 237 → hi ≤ 159)) ∨ LeadT x0 4 (fun lo hi => 240 ≤ x0 ∧ x0 ≤ 244 ∧ (x0 = 240 → 144 ≤ lo) ∧ (x0 = 244 → hi ≤ 143)) := by
  unfold LeadT Lib.firstT
  by_cases h0 : x0 < 128
  · exact .inl h0
  by_cases h1 : x0 < 194
  · exact .inr (.inl (by rw [if_neg h0, if_pos h1]))
  by_cases h2 : x0 < 224
  · exact .inr (.inr (.inl ⟨2, 0, 128, 191, by rw [if_neg h0, if_neg h1, if_pos h2], by decide, by decide, by decide, rfl, rfl, by decide, by decide, by omega⟩))
  by_cases h3 : x0 = 224
  · exact .inr (.inr (.inr (.inl ⟨19, 1, 160, 191, by rw [if_neg h0, if_neg h1, if_neg h2, if_pos h3], by decide, by decide, by decide, rfl, rfl, by decide, by decide, by omega⟩)))
  by_cases h4 : x0 < 237
  · exact .inr (.inr (.inr (.inl ⟨3, 0, 128, 191, by rw [if_neg h0, if_neg h1, if_neg h2, if_neg h3, if_pos h4], by decide, by decide, by decide, rfl, rfl, by decide, by decide, by omega⟩)))
  by_cases h5 : x0 = 237
  · exact .inr (.inr (.inr (.inl ⟨35, 2, 128, 159, by rw [if_neg h0, if_neg h1, if_neg h2, if_neg h3, if_neg h4, if_pos h5], by decide, by decide, by decide, rfl, rfl, by decide, by decide, by omega⟩)))
  by_cases h6 : x0 < 240
  · exact .inr (.inr (.inr (.inl ⟨3, 0, 128, 191, by rw [if_neg h0, if_neg h1, if_neg h2, if_neg h3, if_neg h4, if_neg h5, if_pos h6], by decide, by decide, by decide, rfl, rfl, by decide, by decide, by omega⟩)))
  by_cases h7 : x0 = 240
  · exact .inr (.inr (.inr (.inr ⟨52, 3, 144, 191, by rw [if_neg h0, if_neg h1, if_neg h2, if_neg h3, if_neg h4, if_neg h5, if_neg h6, if_pos h7], by decide, by decide, by decide, rfl, rfl, by decide, by decide, by omega⟩)))
  by_cases h8 : x0 < 244
  · exact .inr (.inr (.inr (.inr ⟨4, 0, 128, 191, by rw [if_neg h0, if_neg h1, if_neg h2, if_neg h3, if_neg h4, if_neg h5, if_neg h6, if_neg h7, if_pos h8], by decide, by decide, by decide, rfl, rfl, by decide, by decide, by omega⟩)))
  by_cases h9 : x0 = 244
  · exact .inr (.inr (.inr (.inr ⟨68, 4, 128, 143, by rw [if_neg h0, if_neg h1, if_neg h2, if_neg h3, if_neg h4, if_neg h5, if_neg h6, if_neg h7, if_neg h8, if_pos h9], by decide, by decide, by decide, rfl, rfl, by decide, by decide, by omega⟩)))
  · exact .inr (.inl (by rw [if_neg h0, if_neg h1, if_neg h2, if_neg h3, if_neg h4, if_neg h5, if_neg h6, if_neg h7, if_neg h8, if_neg h9]))
/-- What Valid tells. -/
def ValidB (s : ByteArray) (w : World) (e : Ending) (w' : World) : Prop := ∃ v, e = .returned (.bool v) ∧ (v = true → WFat s 0) ∧ Below w.heap.size w w'
theorem ValidB.no {s : ByteArray} {w w' : World} (h : Below w.heap.size w w') : ValidB s w (.returned (.bool false)) w' := ⟨false, rfl, (fun h => absurd h (by decide)), h⟩
/-- Eight bytes of a text. -/
def WB (s : ByteArray) (i : Nat) : Int := W8 (s.get! i).toNat (s.get! (i + 1)).toNat (s.get! (i + 2)).toNat (s.get! (i + 3)).toNat (s.get! (i + 4)).toNat (s.get! (i + 5)).toNat (s.get! (i + 6)).toNat (s.get! (i + 7)).toNat
theorem WB.free {s : ByteArray} {i : Nat} (h : HiFree (WB s i)) : ∀ j, j < 8 → (s.get! (i + j)).toNat < 128 := by
  have h1 := W8.free (s.get! i).toNat_lt (s.get! (i + 1)).toNat_lt (s.get! (i + 2)).toNat_lt (s.get! (i + 3)).toNat_lt (s.get! (i + 4)).toNat_lt (s.get! (i + 5)).toNat_lt (s.get! (i + 6)).toNat_lt (s.get! (i + 7)).toNat_lt h
  intro j hj
  have : j = 0 ∨ j = 1 ∨ j = 2 ∨ j = 3 ∨ j = 4 ∨ j = 5 ∨ j = 6 ∨ j = 7 := by omega
  obtain ⟨a0, a1, a2, a3, a4, a5, a6, a7⟩ := h1
  rcases this with rfl | rfl | rfl | rfl | rfl | rfl | rfl | rfl <;> assumption
theorem word_at {V : World} {b off m q : Nat} {s : ByteArray} (hc : ∀ j, j < m → V.cell? ⟨b, off + j, none⟩ = some (.int .u8 ((s.get! (q + j)).toNat : Int))) (k : Nat) (hk : k + 8 ≤ m) {n c : Nat} (hn : 8 ≤ n) : Calls Tryd.prog 39 #[.slice (some ⟨b, off + k, none⟩) n c] V fun e w' => e = .returned (.int .u64 (WB s (q + k))) ∧ ∃ d, w' = V.drewN d := by
  have h := fun i (hi : i < 8) => hc (k + i) (by omega)
  simp only [← Nat.add_assoc] at h
  exact word8_any _ _ _ _ _ _ _ _ hn (h 0 (by decide)) (h 1 (by decide)) (h 2 (by decide)) (h 3 (by decide)) (h 4 (by decide)) (h 5 (by decide)) (h 6 (by decide)) (h 7 (by decide))

set_option maxRecDepth 20000 in
set_option maxHeartbeats 8000000 in
theorem valid_any {w : World} {A : Option Addr} {n c : Nat} {s : ByteArray} (hT : Lib.Utf8Tabs 0 1 w) (hR : Rd w 0 w.heap.size A (byteVals s.data.toList)) (hn : s.size = n) (hnc : n ≤ c) (hcm : c ≤ maxLen) (hb : n ≤ 65536) :
    Calls Tryd.prog 29 #[.slice A n c] w (ValidB s w) := by
  unfold maxLen at hcm
  have hn0 : (0 : Int) ≤ (n : Int) := by omega
  have hnc' : (n : Int) ≤ (c : Int) := by omega
  have HT := Lib.hid hT
  have HR := Lib.hid hR
  have HN := Lib.hid hn
  clear hT hR hn
  go_enter Tryd.func29, Tryd.ntmps29
  go_wp2_with fail
  go_loopg [0] (n + 1) (fun k p W => ∃ (q m : Nat) (A' : Option Addr), k = m + 1 ∧ q + m = n ∧ p = .slice A' m m ∧ Hid (Rd w 0 w.heap.size A' (byteVals (s.data.toList.drop q))) ∧ Hid (WFat s q → WFat s 0) ∧ Hid (Below w.heap.size w W))
  case atStart => exact ⟨0, n, A, rfl, Nat.zero_add _, rfl, by rw [List.drop_zero]; exact HR, Lib.hid id, Lib.hid (Below.refl _ _)⟩
  case round =>
    clear HR
    obtain ⟨q, m, A', hgk, hqm, rfl, HRD, HWF, HW⟩ := hrel
    have HG := Lib.hid hgk
    have hqs : q + m = s.size := by have := HN.out; omega
    have HQ := Lib.hid hqs
    clear hgk hqs
    by_cases hm : 0 < m
    · have hmi : (0 : Int) < (m : Int) := by omega
      obtain ⟨b, off, rfl, hlt, hcells⟩ : ∃ b off, A' = some ⟨b, off, none⟩ ∧ b < w.heap.size ∧ ∀ V, Below w.heap.size w V → ∀ j, j < m → V.cell? ⟨b, off + j, none⟩ = some (.int .u8 ((s.get! (q + j)).toNat : Int)) := by
        obtain ⟨b, off, he, _⟩ := HRD.out (by rw [byteVals_length, List.length_drop, blen]; have := HQ.out; omega)
        subst he
        exact ⟨b, off, rfl, rdcells HRD.out HQ.out hm (Nat.le_refl _)⟩
      have HC := Lib.hid hcells
      have HLT := Lib.hid hlt
      have c0 := hcells wr HW.out 0 hm
      rw [Nat.add_zero, Nat.add_zero] at c0
      obtain ⟨x0, hx0⟩ : ∃ x0 : Nat, (s.get! q).toNat = x0 := ⟨_, rfl⟩
      have hx256 : x0 < 256 := by rw [← hx0]; exact (s.get! q).toNat_lt
      rw [hx0] at c0
      have HX0 := Lib.hid hx0
      have HQM := Lib.hid hqm
      clear hcells hlt hx0 hqm
      by_cases hasc : x0 < 128
      · as_aux_lemma =>
          have hai : (x0 : Int) < 128 := by omega
          have hw1 : WFat s (q + 1) → WFat s 0 := fun h => HWF.out (.one (by have := HQ.out; omega) (by rw [HX0.out]; exact hasc) h)
          have HW1 := Lib.hid hw1
          clear hw1 hasc
          by_cases h9 : 9 < m
          · have hm1 : ¬ m = 1 := by omega
            have h8 : (8 : Int) < ((m - 1 : Nat) : Int) := by omega
            have hm9 : ¬ m - 1 = 8 := by omega
            have hm9' : ¬ m = 9 := by omega
            have hwd := word_at (HC.out wr HW.out) 1 (by omega) (n := m - 1) (c := m - 1) (by omega)
            go_wp2_with fail
            refine hwd.mono ?_
            rintro e w5 ⟨rfl, d5, rfl⟩
            have HW5 : Hid (Below w.heap.size w (wr.drewN d5)) := Lib.hid HW.out.drewN
            clear HW
            generalize wr.drewN d5 = W6 at HW5 ⊢
            by_cases hz : bits BinOp.and IntKind.u64 (WB s (q + 1)) 9259542123273814144 = 0
            · have hz1 : (bits BinOp.and IntKind.u64 (WB s (q + 1)) 9259542123273814144 == 0) = true := beq_iff_eq.2 hz
              have hfr := WB.free (HiFree.of_and hz)
              have hw9 : WFat s (q + 9) → WFat s 0 := fun h => HW1.out (WFat.run (k := 8) (fun j hj => ⟨by have := HQ.out; omega, hfr j hj⟩) (by rw [Nat.add_assoc]; exact h))
              have HW9 := Lib.hid hw9
              clear hz hfr hw9 hwd
              go_upto_region 8 with fail
              obtain ⟨o9, ho9⟩ : ∃ o9, off + 1 + 8 = o9 := ⟨_, rfl⟩
              obtain ⟨m9, hm9e⟩ : ∃ x, m - 1 - 8 = x := ⟨_, rfl⟩
              have HRD9 : Hid (Rd w 0 w.heap.size (some ⟨b, o9, none⟩) (byteVals (s.data.toList.drop (q + 9)))) := Lib.hid (rdcut_lt HRD.out HQ.out h9 (by omega))
              have hq9 : q + 9 + m9 = s.size := by have := HQ.out; omega
              have h9m : m9 < m := by omega
              have hp9 : 0 < m9 := by omega
              have hq9n : q + 9 + m9 = n := by have := HN.out; omega
              rw [ho9, hm9e]
              clear ho9 hm9e hz1 hm1 hm9 hm9' h8 c0 hai
              have hc9 := (rdcells HRD9.out hq9 hp9 (Nat.le_refl _)).2
              have HC9 := Lib.hid hc9
              have HQ9 := Lib.hid hq9
              have H9M := Lib.hid h9m
              have HP9 := Lib.hid hp9
              have HQN := Lib.hid hq9n
              clear hc9 hq9 h9m hp9 h9 hq9n
              by_cases h16 : 16 < m9
              · have hd : (16 : Int) < (m9 : Int) := by omega
                have g0 := fun nn => word_at (HC9.out (W6.drewN nn) HW5.out.drewN) 0 (by omega) (n := m9) (c := m9) (by omega)
                simp only [Nat.add_zero] at g0
                have g8 := fun nn => word_at (HC9.out (W6.drewN nn) HW5.out.drewN) 8 (by omega) (n := m9 - 8) (c := m9 - 8) (by omega)
                have hn8 : ¬ m9 = 8 := by omega
                have k8 : (8 : Int) ≤ (m9 : Int) := by omega
                go_quiet ((go_at_call 39; first | with_reducible exact Calls.quiet_of (g0 _) | with_reducible exact Calls.quiet_of (g8 _)))
                have HWQ : Hid (Below w.heap.size w (W6.drewN nq)) := Lib.hid HW5.out.drewN
                clear HW5 g0 g8
                generalize W6.drewN nq = W7 at HWQ ⊢
                by_cases hz2 : bits BinOp.and IntKind.u64 (bits BinOp.or IntKind.u64 (WB s (q + 9)) (WB s (q + 9 + 8))) 9259542123273814144 = 0
                · have hz3 : (bits BinOp.and IntKind.u64 (bits BinOp.or IntKind.u64 (WB s (q + 9)) (WB s (q + 9 + 8))) 9259542123273814144 == 0) = true := beq_iff_eq.2 hz2
                  have hfr := (HiFree.of_and hz2).or
                  have hw25 : WFat s (q + 9 + 16) → WFat s 0 := fun h => HW9.out (WFat.run (k := 8) (fun j hj => ⟨by have := HQ9.out; omega, WB.free hfr.1 j hj⟩) (WFat.run (k := 8) (fun j hj => ⟨by have := HQ9.out; omega, WB.free hfr.2 j hj⟩) h))
                  have HW25 := Lib.hid hw25
                  have hn16 : ¬ m9 = 16 := by omega
                  have k16 : (16 : Int) ≤ (m9 : Int) := by omega
                  have HRD25 : Hid (Rd w 0 w.heap.size (some ⟨b, o9 + 16, none⟩) (byteVals (s.data.toList.drop (q + 9 + 16)))) := Lib.hid (rdcut_lt HRD9.out HQ9.out h16 rfl)
                  have hq25 : q + 9 + 16 + (m9 - 16) = s.size ∧ m9 - 16 < m := by have := HQ9.out; have := H9M.out; omega
                  have HQ25 := Lib.hid hq25
                  have hp25 : 1 ≤ m9 - 16 := by omega
                  clear hz2 hfr hw25 hq25 hn8 k8 hd h16
                  go_wp2_with fail
                  go_loopg [0] (m9 - 16 + 1) (fun k p W => ∃ (q1 m1 o1 : Nat), k = m1 + 1 ∧ 1 ≤ m1 ∧ p = .slice (some ⟨b, o1, none⟩) m1 m1 ∧ Hid (q1 + m1 = s.size ∧ m1 < m) ∧ Hid (Rd w 0 w.heap.size (some ⟨b, o1, none⟩) (byteVals (s.data.toList.drop q1))) ∧ Hid (WFat s q1 → WFat s 0) ∧ Hid (Below w.heap.size w W))
                  case atStart => exact ⟨q + 9 + 16, m9 - 16, o9 + 16, rfl, hp25, rfl, HQ25, HRD25, HW25, HWQ⟩
                  case round =>
                    clear HQ25 HRD25 HW25 HWQ hp25 hz3 hn16 k16
                    obtain ⟨q1, m1, o1, hgk1, h1m, rfl, HQ1, HRD1, HWF1, HWR1⟩ := hrel
                    have HG1 := Lib.hid hgk1
                    have hc1 := (rdcells HRD1.out HQ1.out.1 h1m (Nat.le_refl _)).2
                    have HC1 := Lib.hid hc1
                    have hqn1 : q1 + m1 = n := by have := HQ1.out.1; have := HN.out; omega
                    have HQN1 := Lib.hid hqn1
                    clear hgk1 hc1 hqn1
                    by_cases h32 : 32 < m1
                    · have hd : (32 : Int) < (m1 : Int) := by omega
                      have g0 := fun nn => word_at (HC1.out (wr.drewN nn) HWR1.out.drewN) 0 (by omega) (n := m1) (c := m1) (by omega)
                      simp only [Nat.add_zero] at g0
                      have g8 := fun nn => word_at (HC1.out (wr.drewN nn) HWR1.out.drewN) 8 (by omega) (n := m1 - 8) (c := m1 - 8) (by omega)
                      have g16 := fun nn => word_at (HC1.out (wr.drewN nn) HWR1.out.drewN) 16 (by omega) (n := m1 - 16) (c := m1 - 16) (by omega)
                      have g24 := fun nn => word_at (HC1.out (wr.drewN nn) HWR1.out.drewN) 24 (by omega) (n := m1 - 24) (c := m1 - 24) (by omega)
                      have hn8 : ¬ m1 = 8 := by omega
                      have k8 : (8 : Int) ≤ (m1 : Int) := by omega
                      have hn16 : ¬ m1 = 16 := by omega
                      have k16 : (16 : Int) ≤ (m1 : Int) := by omega
                      have hn24 : ¬ m1 = 24 := by omega
                      have k24 : (24 : Int) ≤ (m1 : Int) := by omega
                      have hn32 : ¬ m1 = 32 := by omega
                      have k32 : (32 : Int) ≤ (m1 : Int) := by omega
                      go_upto_region 10 with fail
                      go_quiet ((go_at_call 39; first | with_reducible exact Calls.quiet_of (g0 _) | with_reducible exact Calls.quiet_of (g8 _) | with_reducible exact Calls.quiet_of (g16 _) | with_reducible exact Calls.quiet_of (g24 _)))
                      have HWQ1 : Hid (Below w.heap.size w (wr.drewN nq)) := Lib.hid HWR1.out.drewN
                      clear HWR1 g0 g8 g16 g24
                      generalize wr.drewN nq = W8 at HWQ1 ⊢
                      by_cases hz2 : bits BinOp.and IntKind.u64 (bits BinOp.or IntKind.u64 (bits BinOp.or IntKind.u64 (WB s q1) (WB s (q1 + 8))) (bits BinOp.or IntKind.u64 (WB s (q1 + 16)) (WB s (q1 + 24)))) 9259542123273814144 = 0
                      · have hz3 : (bits BinOp.and IntKind.u64 (bits BinOp.or IntKind.u64 (bits BinOp.or IntKind.u64 (WB s q1) (WB s (q1 + 8))) (bits BinOp.or IntKind.u64 (WB s (q1 + 16)) (WB s (q1 + 24)))) 9259542123273814144 == 0) = true := beq_iff_eq.2 hz2
                        have hfr := (HiFree.of_and hz2).or
                        have hw32 : WFat s (q1 + 32) → WFat s 0 := fun h => HWF1.out (WFat.run (k := 8) (fun j hj => ⟨by have := HQ1.out; omega, WB.free hfr.1.or.1 j hj⟩) (WFat.run (k := 8) (fun j hj => ⟨by have := HQ1.out; omega, WB.free hfr.1.or.2 j hj⟩) (WFat.run (k := 8) (fun j hj => ⟨by have := HQ1.out; omega, WB.free hfr.2.or.1 j hj⟩) (WFat.run (k := 8) (fun j hj => ⟨by have := HQ1.out; omega, WB.free hfr.2.or.2 j hj⟩) h))))
                        have HW32 := Lib.hid hw32
                        have HRD32 : Hid (Rd w 0 w.heap.size (some ⟨b, o1 + 32, none⟩) (byteVals (s.data.toList.drop (q1 + 32)))) := Lib.hid (rdcut_lt HRD1.out HQ1.out.1 h32 rfl)
                        have HQ32 : Hid (q1 + 32 + (m1 - 32) = s.size ∧ m1 - 32 < m) := Lib.hid (by have := HQ1.out; omega)
                        have hp32 : 1 ≤ m1 - 32 := by omega
                        have HM32 : Hid (32 < m1) := Lib.hid h32
                        clear hz2 hfr hw32 hn8 k8 hn16 k16 hn24 k24 hd h32
                        go_wp2_with fail
                        go_roundg (m1 - 32 + 1)
                        case measure => have := HG1.out; have := HM32.out; omega
                        case rel => exact ⟨q1 + 32, m1 - 32, o1 + 32, rfl, hp32, rfl, HQ32, HRD32, HW32, HWQ1⟩
                      · have hz3 : (bits BinOp.and IntKind.u64 (bits BinOp.or IntKind.u64 (bits BinOp.or IntKind.u64 (WB s q1) (WB s (q1 + 8))) (bits BinOp.or IntKind.u64 (WB s (q1 + 16)) (WB s (q1 + 24)))) 9259542123273814144 == 0) = false := beq_eq_false_iff_ne.2 hz2
                        clear hz2 hn8 k8 hn16 k16 hn24 k24 hn32 k32 hd h32
                        go_wp2_with fail
                        go_roundg (m1 + 1)
                        case measure => have := HG.out; have := HQ1.out.2; omega
                        case rel => exact ⟨q1, m1, _, rfl, HQN1.out, rfl, HRD1, HWF1, HWQ1⟩
                    · have hd : decide ((32 : Int) < (m1 : Int)) = false := decide_eq_false (by omega)
                      have hdn : decide (32 < m1) = false := decide_eq_false h32
                      clear h32
                      go_upto_region 10 with fail
                      go_quiet (fail)
                      have HWQ1 : Hid (Below w.heap.size w (wr.drewN nq)) := Lib.hid HWR1.out.drewN
                      clear HWR1
                      generalize wr.drewN nq = W8 at HWQ1 ⊢
                      go_wp2_with fail
                      go_roundg (m1 + 1)
                      case measure => have := HG.out; have := HQ1.out.2; omega
                      case rel => exact ⟨q1, m1, _, rfl, HQN1.out, rfl, HRD1, HWF1, HWQ1⟩
                · have hz3 : (bits BinOp.and IntKind.u64 (bits BinOp.or IntKind.u64 (WB s (q + 9)) (WB s (q + 9 + 8))) 9259542123273814144 == 0) = false := beq_eq_false_iff_ne.2 hz2
                  clear hz2 hn8 k8 hd h16
                  go_wp2_with fail
                  go_roundg (m9 + 1)
                  case measure => have := HG.out; have := H9M.out; omega
                  case rel => exact ⟨q + 9, m9, _, rfl, HQN.out, rfl, HRD9, HW9, HWQ⟩
              · have hd : decide ((16 : Int) < (m9 : Int)) = false := decide_eq_false (by omega)
                have hdn : decide (16 < m9) = false := decide_eq_false h16
                clear h16
                go_quiet (fail)
                have HWQ : Hid (Below w.heap.size w (W6.drewN nq)) := Lib.hid HW5.out.drewN
                clear HW5
                generalize W6.drewN nq = W7 at HWQ ⊢
                go_wp2_with fail
                go_roundg (m9 + 1)
                case measure => have := HG.out; have := H9M.out; omega
                case rel => exact ⟨q + 9, m9, _, rfl, HQN.out, rfl, HRD9, HW9, HWQ⟩
            · have hz1 : (bits BinOp.and IntKind.u64 (WB s (q + 1)) 9259542123273814144 == 0) = false := beq_eq_false_iff_ne.2 hz
              have HRD1 : Hid (Rd w 0 w.heap.size (some ⟨b, off + 1, none⟩) (byteVals (s.data.toList.drop (q + 1)))) := Lib.hid (rdcut_lt HRD.out HQ.out (by omega) rfl)
              have HQN1 : Hid (q + 1 + (m - 1) = n ∧ m - 1 < m) := Lib.hid (by have := HQM.out; omega)
              clear hz hwd
              go_wp2_with fail
              go_roundg (m - 1 + 1)
              case measure => have := HG.out; have := HQN1.out.2; omega
              case rel => exact ⟨q + 1, m - 1, _, rfl, HQN1.out.1, rfl, HRD1, HW1, HW5⟩
          · have h8 : decide ((8 : Int) < ((m - 1 : Nat) : Int)) = false := decide_eq_false (by omega)
            have h8n : decide (8 < m - 1) = false := decide_eq_false (by omega)
            have hc1 := rdcut HRD.out HQ.out (k := 1) (by omega)
            have HQN1 : Hid (q + 1 + (m - 1) = n ∧ m - 1 < m) := Lib.hid (by have := HQM.out; omega)
            obtain ⟨A2, hA2⟩ : ∃ A2, (if m = 1 then some ({ block := b, off := off } : Addr) else some { block := b, off := off + 1 }) = A2 := ⟨_, rfl⟩
            rw [hA2] at hc1
            have HC1 := Lib.hid hc1
            clear hc1 h9
            go_wp2_with fail
            go_roundg (m - 1 + 1)
            case measure => have := HG.out; have := HQN1.out.2; omega
            case rel => exact ⟨q + 1, m - 1, _, rfl, HQN1.out.1, rfl, HC1, HW1, HW⟩
      · have hai : decide ((x0 : Int) < 128) = false := decide_eq_false (by omega)
        have hain : decide (x0 < 128) = false := decide_eq_false hasc
        have hTT := tabs_below HT.out HW.out
        have cf := hTT.1 x0 hx256
        have hi256 : (x0 : Int) < 256 := by omega
        have HAS := Lib.hid hasc
        clear hasc
        rcases first_cases x0 with hX | hX | hX | hX | hX
        · exact absurd hX HAS.out
        · rw [hX] at cf
          have a0 : wr.cell? ⟨1, 30, none⟩ = some (.int .u8 0) := by have := (hTT.2 15 (by decide)).1; simpa [Lib.accLo] using this
          have a1 : wr.cell? ⟨1, 31, none⟩ = some (.int .u8 0) := by have := (hTT.2 15 (by decide)).2; simpa [Lib.accHi] using this
          clear hTT hX
          go_wp2_with fail
          go_ret
          exact .no (HW.out.alloc HW.out.size _)
        · as_aux_lemma =>
            obtain ⟨F, I, lo, hi, hF, hF7, hF4, hI, hlo, hhi, hl0, hh0, hrg⟩ := hX
            have a0 : wr.cell? ⟨1, I * 2, none⟩ = some (.int .u8 (lo : Int)) := by have := (hTT.2 I hI).1; rw [hlo, Nat.mul_comm] at this; exact this
            have a1 : wr.cell? ⟨1, I * 2 + 1, none⟩ = some (.int .u8 (hi : Int)) := by have := (hTT.2 I hI).2; rw [hhi, Nat.mul_comm] at this; exact this
            have HRG := Lib.hid hrg
            have hIi : (I : Int) < 16 := by omega
            rw [hF] at cf
            clear hTT hrg hF hlo hhi
            go_upto_region 18 with fail
            have bx := Blk.new wr 71 #[.int .u8 (lo : Int), .int .u8 (hi : Int)]
            have l0 := bx.cell 0
            have l1 := bx.cell 1
            simp only [List.getElem?_toArray, List.getElem?_cons_zero, List.getElem?_cons_succ] at l0 l1
            have hwa := HW.out.alloc HW.out.size (.cells #[.int .u8 (lo : Int), .int .u8 (hi : Int)] 71)
            have HWA := Lib.hid hwa
            clear bx cf a0 a1 c0 hwa hF7 hF4 hI hIi
            generalize wr.heap.size = gb at l0 l1 ⊢
            generalize wr.alloc (.cells #[.int .u8 (lo : Int), .int .u8 (hi : Int)] 71) = W5 at l0 l1 HWA ⊢
            by_cases hm2 : 2 ≤ m
            case neg =>
              have hd : decide ((m : Int) < 2) = true := decide_eq_true (by omega)
              have hdn : decide (m < 2) = true := decide_eq_true (by omega)
              clear hm2
              go_quiet (fail)
              go_wp2_with fail
              go_ret
              exact .no HWA.out.drewN
            have hd : decide ((m : Int) < 2) = false := decide_eq_false (by omega)
            have hdn : decide (m < 2) = false := decide_eq_false (by omega)
            have hj1 : (1 : Int) < (m : Int) := by omega
            have d1 := HC.out W5 HWA.out 1 (by omega)
            obtain ⟨x1, hx1⟩ : ∃ x1 : Nat, (s.get! (q + 1)).toNat = x1 := ⟨_, rfl⟩
            rw [hx1] at d1
            have HX1 := Lib.hid hx1
            clear hx1
            by_cases hlo1 : lo ≤ x1
            case neg =>
              have ha1 : decide ((x1 : Int) < (lo : Int)) = true := decide_eq_true (by omega)
              have hb1 : decide (x1 < lo) = true := decide_eq_true (by omega)
              go_quiet (fail)
              go_wp2_with fail
              go_ret
              exact .no HWA.out.drewN
            have ha1 : decide ((x1 : Int) < (lo : Int)) = false := decide_eq_false (by omega)
            have hb1 : decide (x1 < lo) = false := decide_eq_false (by omega)
            by_cases hhi1 : x1 ≤ hi
            case neg =>
              have he1 : decide ((hi : Int) < (x1 : Int)) = true := decide_eq_true (by omega)
              have hf1 : decide (hi < x1) = true := decide_eq_true (by omega)
              go_quiet (fail)
              go_wp2_with fail
              go_ret
              exact .no HWA.out.drewN
            have he1 : decide ((hi : Int) < (x1 : Int)) = false := decide_eq_false (by omega)
            have hf1 : decide (hi < x1) = false := decide_eq_false (by omega)
            have hwn : WFat s (q + 2) → WFat s 0 := fun h => HWF.out (.two (by have := HQ.out; omega) (by rw [HX0.out]; have := HRG.out; omega) (by rw [HX1.out]; omega) h)
            have HWN := Lib.hid hwn
            have hc1 := rdcut HRD.out HQ.out (k := 2) (by omega)
            have HQN1 : Hid (q + 2 + (m - 2) = n ∧ m - 2 < m) := Lib.hid (by have := HQM.out; omega)
            have ksz : (2 : Int) ≤ (m : Int) := by omega
            have ksn : 2 ≤ m := by omega
            obtain ⟨A2, hA2⟩ : ∃ A2, (if m = 2 then some ({ block := b, off := off } : Addr) else some { block := b, off := off + 2 }) = A2 := ⟨_, rfl⟩
            rw [hA2] at hc1
            have HC1 := Lib.hid hc1
            clear hc1 hwn hlo1 hhi1
            go_quiet (fail)
            have HWQ : Hid (Below w.heap.size w (W5.drewN nq)) := Lib.hid HWA.out.drewN
            clear HWA HW l0 l1 d1
            generalize W5.drewN nq = W7 at HWQ ⊢
            go_wp2_with fail
            go_roundg (m - 2 + 1)
            case measure => have := HG.out; have := HQN1.out.2; omega
            case rel => exact ⟨q + 2, m - 2, _, rfl, HQN1.out.1, rfl, HC1, HWN, HWQ⟩
        · as_aux_lemma =>
            obtain ⟨F, I, lo, hi, hF, hF7, hF4, hI, hlo, hhi, hl0, hh0, hrg⟩ := hX
            have a0 : wr.cell? ⟨1, I * 2, none⟩ = some (.int .u8 (lo : Int)) := by have := (hTT.2 I hI).1; rw [hlo, Nat.mul_comm] at this; exact this
            have a1 : wr.cell? ⟨1, I * 2 + 1, none⟩ = some (.int .u8 (hi : Int)) := by have := (hTT.2 I hI).2; rw [hhi, Nat.mul_comm] at this; exact this
            have HRG := Lib.hid hrg
            have hIi : (I : Int) < 16 := by omega
            rw [hF] at cf
            clear hTT hrg hF hlo hhi
            go_upto_region 22 with fail
            have bx := Blk.new wr 71 #[.int .u8 (lo : Int), .int .u8 (hi : Int)]
            have l0 := bx.cell 0
            have l1 := bx.cell 1
            simp only [List.getElem?_toArray, List.getElem?_cons_zero, List.getElem?_cons_succ] at l0 l1
            have hwa := HW.out.alloc HW.out.size (.cells #[.int .u8 (lo : Int), .int .u8 (hi : Int)] 71)
            have HWA := Lib.hid hwa
            clear bx cf a0 a1 c0 hwa hF7 hF4 hI hIi
            generalize wr.heap.size = gb at l0 l1 ⊢
            generalize wr.alloc (.cells #[.int .u8 (lo : Int), .int .u8 (hi : Int)] 71) = W5 at l0 l1 HWA ⊢
            by_cases hm3 : 3 ≤ m
            case neg =>
              have hd : decide ((m : Int) < 3) = true := decide_eq_true (by omega)
              have hdn : decide (m < 3) = true := decide_eq_true (by omega)
              clear hm3
              go_quiet (fail)
              go_wp2_with fail
              go_ret
              exact .no HWA.out.drewN
            have hd : decide ((m : Int) < 3) = false := decide_eq_false (by omega)
            have hdn : decide (m < 3) = false := decide_eq_false (by omega)
            have hj1 : (1 : Int) < (m : Int) := by omega
            have hj2 : (2 : Int) < (m : Int) := by omega
            have d1 := HC.out W5 HWA.out 1 (by omega)
            obtain ⟨x1, hx1⟩ : ∃ x1 : Nat, (s.get! (q + 1)).toNat = x1 := ⟨_, rfl⟩
            rw [hx1] at d1
            have HX1 := Lib.hid hx1
            clear hx1
            by_cases hlo1 : lo ≤ x1
            case neg =>
              have ha1 : decide ((x1 : Int) < (lo : Int)) = true := decide_eq_true (by omega)
              have hb1 : decide (x1 < lo) = true := decide_eq_true (by omega)
              go_quiet (fail)
              go_wp2_with fail
              go_ret
              exact .no HWA.out.drewN
            have ha1 : decide ((x1 : Int) < (lo : Int)) = false := decide_eq_false (by omega)
            have hb1 : decide (x1 < lo) = false := decide_eq_false (by omega)
            by_cases hhi1 : x1 ≤ hi
            case neg =>
              have he1 : decide ((hi : Int) < (x1 : Int)) = true := decide_eq_true (by omega)
              have hf1 : decide (hi < x1) = true := decide_eq_true (by omega)
              go_quiet (fail)
              go_wp2_with fail
              go_ret
              exact .no HWA.out.drewN
            have he1 : decide ((hi : Int) < (x1 : Int)) = false := decide_eq_false (by omega)
            have hf1 : decide (hi < x1) = false := decide_eq_false (by omega)
            have d2 := HC.out W5 HWA.out 2 (by omega)
            obtain ⟨x2, hx2⟩ : ∃ x2 : Nat, (s.get! (q + 2)).toNat = x2 := ⟨_, rfl⟩
            rw [hx2] at d2
            have HX2 := Lib.hid hx2
            clear hx2
            by_cases hlo2 : 128 ≤ x2
            case neg =>
              have ha2 : decide ((x2 : Int) < 128) = true := decide_eq_true (by omega)
              have hb2 : decide (x2 < 128) = true := decide_eq_true (by omega)
              go_quiet (fail)
              go_wp2_with fail
              go_ret
              exact .no HWA.out.drewN
            have ha2 : decide ((x2 : Int) < 128) = false := decide_eq_false (by omega)
            have hb2 : decide (x2 < 128) = false := decide_eq_false (by omega)
            by_cases hhi2 : x2 ≤ 191
            case neg =>
              have he2 : decide ((191 : Int) < (x2 : Int)) = true := decide_eq_true (by omega)
              have hf2 : decide (191 < x2) = true := decide_eq_true (by omega)
              go_quiet (fail)
              go_wp2_with fail
              go_ret
              exact .no HWA.out.drewN
            have he2 : decide ((191 : Int) < (x2 : Int)) = false := decide_eq_false (by omega)
            have hf2 : decide (191 < x2) = false := decide_eq_false (by omega)
            have hwn : WFat s (q + 3) → WFat s 0 := fun h => HWF.out (.three (by have := HQ.out; omega) (by rw [HX0.out]; have := HRG.out; omega) (by rw [HX1.out]; omega) (by rw [HX2.out]; omega) (fun h => by rw [HX0.out] at h; rw [HX1.out]; have := HRG.out.2.2.1 h; omega) (fun h => by rw [HX0.out] at h; rw [HX1.out]; have := HRG.out.2.2.2 h; omega) h)
            have HWN := Lib.hid hwn
            have hc1 := rdcut HRD.out HQ.out (k := 3) (by omega)
            have HQN1 : Hid (q + 3 + (m - 3) = n ∧ m - 3 < m) := Lib.hid (by have := HQM.out; omega)
            have ksz : (3 : Int) ≤ (m : Int) := by omega
            have ksn : 3 ≤ m := by omega
            obtain ⟨A2, hA2⟩ : ∃ A2, (if m = 3 then some ({ block := b, off := off } : Addr) else some { block := b, off := off + 3 }) = A2 := ⟨_, rfl⟩
            rw [hA2] at hc1
            have HC1 := Lib.hid hc1
            clear hc1 hwn hlo1 hhi1 hlo2 hhi2
            go_quiet (fail)
            have HWQ : Hid (Below w.heap.size w (W5.drewN nq)) := Lib.hid HWA.out.drewN
            clear HWA HW l0 l1 d1 d2
            generalize W5.drewN nq = W7 at HWQ ⊢
            go_wp2_with fail
            go_roundg (m - 3 + 1)
            case measure => have := HG.out; have := HQN1.out.2; omega
            case rel => exact ⟨q + 3, m - 3, _, rfl, HQN1.out.1, rfl, HC1, HWN, HWQ⟩
        · as_aux_lemma =>
            obtain ⟨F, I, lo, hi, hF, hF7, hF4, hI, hlo, hhi, hl0, hh0, hrg⟩ := hX
            have a0 : wr.cell? ⟨1, I * 2, none⟩ = some (.int .u8 (lo : Int)) := by have := (hTT.2 I hI).1; rw [hlo, Nat.mul_comm] at this; exact this
            have a1 : wr.cell? ⟨1, I * 2 + 1, none⟩ = some (.int .u8 (hi : Int)) := by have := (hTT.2 I hI).2; rw [hhi, Nat.mul_comm] at this; exact this
            have HRG := Lib.hid hrg
            have hIi : (I : Int) < 16 := by omega
            rw [hF] at cf
            clear hTT hrg hF hlo hhi
            go_upto_region 26 with fail
            have bx := Blk.new wr 71 #[.int .u8 (lo : Int), .int .u8 (hi : Int)]
            have l0 := bx.cell 0
            have l1 := bx.cell 1
            simp only [List.getElem?_toArray, List.getElem?_cons_zero, List.getElem?_cons_succ] at l0 l1
            have hwa := HW.out.alloc HW.out.size (.cells #[.int .u8 (lo : Int), .int .u8 (hi : Int)] 71)
            have HWA := Lib.hid hwa
            clear bx cf a0 a1 c0 hwa hF7 hF4 hI hIi
            generalize wr.heap.size = gb at l0 l1 ⊢
            generalize wr.alloc (.cells #[.int .u8 (lo : Int), .int .u8 (hi : Int)] 71) = W5 at l0 l1 HWA ⊢
            by_cases hm4 : 4 ≤ m
            case neg =>
              have hd : decide ((m : Int) < 4) = true := decide_eq_true (by omega)
              have hdn : decide (m < 4) = true := decide_eq_true (by omega)
              clear hm4
              go_quiet (fail)
              go_wp2_with fail
              go_ret
              exact .no HWA.out.drewN
            have hd : decide ((m : Int) < 4) = false := decide_eq_false (by omega)
            have hdn : decide (m < 4) = false := decide_eq_false (by omega)
            have hj1 : (1 : Int) < (m : Int) := by omega
            have hj2 : (2 : Int) < (m : Int) := by omega
            have hj3 : (3 : Int) < (m : Int) := by omega
            have d1 := HC.out W5 HWA.out 1 (by omega)
            obtain ⟨x1, hx1⟩ : ∃ x1 : Nat, (s.get! (q + 1)).toNat = x1 := ⟨_, rfl⟩
            rw [hx1] at d1
            have HX1 := Lib.hid hx1
            clear hx1
            by_cases hlo1 : lo ≤ x1
            case neg =>
              have ha1 : decide ((x1 : Int) < (lo : Int)) = true := decide_eq_true (by omega)
              have hb1 : decide (x1 < lo) = true := decide_eq_true (by omega)
              go_quiet (fail)
              go_wp2_with fail
              go_ret
              exact .no HWA.out.drewN
            have ha1 : decide ((x1 : Int) < (lo : Int)) = false := decide_eq_false (by omega)
            have hb1 : decide (x1 < lo) = false := decide_eq_false (by omega)
            by_cases hhi1 : x1 ≤ hi
            case neg =>
              have he1 : decide ((hi : Int) < (x1 : Int)) = true := decide_eq_true (by omega)
              have hf1 : decide (hi < x1) = true := decide_eq_true (by omega)
              go_quiet (fail)
              go_wp2_with fail
              go_ret
              exact .no HWA.out.drewN
            have he1 : decide ((hi : Int) < (x1 : Int)) = false := decide_eq_false (by omega)
            have hf1 : decide (hi < x1) = false := decide_eq_false (by omega)
            have d2 := HC.out W5 HWA.out 2 (by omega)
            obtain ⟨x2, hx2⟩ : ∃ x2 : Nat, (s.get! (q + 2)).toNat = x2 := ⟨_, rfl⟩
            rw [hx2] at d2
            have HX2 := Lib.hid hx2
            clear hx2
            by_cases hlo2 : 128 ≤ x2
            case neg =>
              have ha2 : decide ((x2 : Int) < 128) = true := decide_eq_true (by omega)
              have hb2 : decide (x2 < 128) = true := decide_eq_true (by omega)
              go_quiet (fail)
              go_wp2_with fail
              go_ret
              exact .no HWA.out.drewN
            have ha2 : decide ((x2 : Int) < 128) = false := decide_eq_false (by omega)
            have hb2 : decide (x2 < 128) = false := decide_eq_false (by omega)
            by_cases hhi2 : x2 ≤ 191
            case neg =>
              have he2 : decide ((191 : Int) < (x2 : Int)) = true := decide_eq_true (by omega)
              have hf2 : decide (191 < x2) = true := decide_eq_true (by omega)
              go_quiet (fail)
              go_wp2_with fail
              go_ret
              exact .no HWA.out.drewN
            have he2 : decide ((191 : Int) < (x2 : Int)) = false := decide_eq_false (by omega)
            have hf2 : decide (191 < x2) = false := decide_eq_false (by omega)
            have d3 := HC.out W5 HWA.out 3 (by omega)
            obtain ⟨x3, hx3⟩ : ∃ x3 : Nat, (s.get! (q + 3)).toNat = x3 := ⟨_, rfl⟩
            rw [hx3] at d3
            have HX3 := Lib.hid hx3
            clear hx3
            by_cases hlo3 : 128 ≤ x3
            case neg =>
              have ha3 : decide ((x3 : Int) < 128) = true := decide_eq_true (by omega)
              have hb3 : decide (x3 < 128) = true := decide_eq_true (by omega)
              go_quiet (fail)
              go_wp2_with fail
              go_ret
              exact .no HWA.out.drewN
            have ha3 : decide ((x3 : Int) < 128) = false := decide_eq_false (by omega)
            have hb3 : decide (x3 < 128) = false := decide_eq_false (by omega)
            by_cases hhi3 : x3 ≤ 191
            case neg =>
              have he3 : decide ((191 : Int) < (x3 : Int)) = true := decide_eq_true (by omega)
              have hf3 : decide (191 < x3) = true := decide_eq_true (by omega)
              go_quiet (fail)
              go_wp2_with fail
              go_ret
              exact .no HWA.out.drewN
            have he3 : decide ((191 : Int) < (x3 : Int)) = false := decide_eq_false (by omega)
            have hf3 : decide (191 < x3) = false := decide_eq_false (by omega)
            have hwn : WFat s (q + 4) → WFat s 0 := fun h => HWF.out (.four (by have := HQ.out; omega) (by rw [HX0.out]; have := HRG.out; omega) (by rw [HX1.out]; omega) (by rw [HX2.out]; omega) (by rw [HX3.out]; omega) (fun h => by rw [HX0.out] at h; rw [HX1.out]; have := HRG.out.2.2.1 h; omega) (fun h => by rw [HX0.out] at h; rw [HX1.out]; have := HRG.out.2.2.2 h; omega) h)
            have HWN := Lib.hid hwn
            have hc1 := rdcut HRD.out HQ.out (k := 4) (by omega)
            have HQN1 : Hid (q + 4 + (m - 4) = n ∧ m - 4 < m) := Lib.hid (by have := HQM.out; omega)
            have ksz : (4 : Int) ≤ (m : Int) := by omega
            have ksn : 4 ≤ m := by omega
            obtain ⟨A2, hA2⟩ : ∃ A2, (if m = 4 then some ({ block := b, off := off } : Addr) else some { block := b, off := off + 4 }) = A2 := ⟨_, rfl⟩
            rw [hA2] at hc1
            have HC1 := Lib.hid hc1
            clear hc1 hwn hlo1 hhi1 hlo2 hhi2 hlo3 hhi3
            go_quiet (fail)
            have HWQ : Hid (Below w.heap.size w (W5.drewN nq)) := Lib.hid HWA.out.drewN
            clear HWA HW l0 l1 d1 d2 d3
            generalize W5.drewN nq = W7 at HWQ ⊢
            go_wp2_with fail
            go_roundg (m - 4 + 1)
            case measure => have := HG.out; have := HQN1.out.2; omega
            case rel => exact ⟨q + 4, m - 4, _, rfl, HQN1.out.1, rfl, HC1, HWN, HWQ⟩
    · have hmi : ¬ (0 : Int) < (m : Int) := by omega
      have hwf : WFat s 0 := HWF.out (.done (by have := HQ.out; omega))
      have HWZ := Lib.hid hwf
      clear hwf hm
      go_wp2_with fail
      go_ret
      exact ⟨true, rfl, fun _ => HWZ.out, HW.out⟩
end Go.Proofs.YtkiljhlbeffnfaaDoor
