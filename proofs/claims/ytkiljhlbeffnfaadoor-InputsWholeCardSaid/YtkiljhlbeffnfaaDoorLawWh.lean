/- InputsWhole: the law's walk. -/
import Derived.Test.YtkiljhlbeffnfaaDoorLawBy
import Derived.Test.YtkiljhlbeffnfaaDoorLawKi
import Derived.Test.YtkiljhlbeffnfaaDoorHeld
import Derived.Test.YtkiljhlbeffnfaaDoorVa3
import Derived.Test.YtkiljhlbeffnfaaDoorVa4
namespace Go.Proofs.YtkiljhlbeffnfaaDoor
open Go.RowKit

theorem placeFrom_at {os : List Int} {j : Nat} {x : Int} (h : os[j]? = some x) (hlt : ∀ i y, i < j → os[i]? = some y → y ≠ x) : placeFrom os x = (j : Int) := by
  unfold placeFrom
  have hj : j < os.length := (List.getElem?_eq_some_iff.1 h).1
  have he : os[j] = x := (List.getElem?_eq_some_iff.1 h).2
  have : os.findIdx? (· == x) = some j := by
    rw [List.findIdx?_eq_some_iff_getElem]
    refine ⟨hj, by rw [he]; simp, fun i hi => ?_⟩
    have := hlt i os[i] hi (List.getElem?_eq_getElem (by omega))
    simpa using this
  rw [this]
theorem place_full {s : ByteArray} {m : Nat} (hm : Cnt s m) {j : Nat} (hj : j ≤ m) : placeOf (full (pre s m) s.size) (posN s j : Int) = (j : Int) := by
  unfold placeOf
  rw [if_neg (by omega)]
  obtain ⟨r, hr⟩ := full_at hm hj
  refine placeFrom_at (by rw [List.getElem?_map, hr]; rfl) (fun i y hi hy => ?_)
  rw [List.getElem?_map] at hy
  obtain ⟨q, hq, rfl⟩ := Option.map_eq_some_iff.1 hy
  have h1 := (full_get hm hq).2
  have h2 := posN_lt s hm.2 hi hj
  rw [h1]; omega
theorem bytes_step {s : ByteArray} {m : Nat} (hm : Cnt s m) {j : Nat} (hj : j < m) : bytesOf (full (pre s m) s.size) s.data.toList (j : Int) ((j : Int) + 1) = (s.data.toList.take (posN s (j + 1))).drop (posN s j) := by
  unfold bytesOf
  rw [if_neg (by rw [fullLen]; omega)]
  have h1 := offAt_full hm (k := j) (by omega)
  have h2 := offAt_full hm (k := j + 1) (by omega)
  rw [show ((j : Int) + 1) = ((j + 1 : Nat) : Int) by omega, h1, h2]
  rfl
theorem take_step {α : Type} (l : List α) {a b : Nat} (h : a ≤ b) : l.take a ++ (l.take b).drop a = l.take b := by
  have : l.take a = (l.take b).take a := by rw [List.take_take, Nat.min_eq_left h]
  rw [this, List.take_append_drop]
theorem runesOf_succ (s : ByteArray) (j : Nat) : runesOf s (j + 1) = runesOf s j ++ [((Utf8.decode s (posN s j)).1 : Int)] := by
  unfold runesOf; rw [pre_succ, List.map_append]; rfl
/-- A text that is rightly written is its runes, written. -/
theorem whole_enc {s : ByteArray} {m : Nat} (hm : Cnt s m) (hw : WFat s 0) : ∀ j, j ≤ m → WFat s (posN s j) ∧ encL (runesOf s j) = s.data.toList.take (posN s j)
  | 0, _ => ⟨hw, by simp [runesOf, pre, encL, posN]⟩
  | j + 1, hj => by
    obtain ⟨h1, h2⟩ := whole_enc hm hw j (by omega)
    obtain ⟨h3, h4⟩ := h1.read (hm.2 j (by omega))
    refine ⟨h4, ?_⟩
    rw [runesOf_succ, encL_append, encL_one, h2, h3]
    exact take_step _ (Nat.le_add_right _ _)
theorem rune_full {s : ByteArray} {m : Nat} {j : Nat} (hj : j < m) : runeAt (full (pre s m) s.size) (j : Int) = ((Utf8.decode s (posN s j)).1 : Int) := by
  unfold runeAt
  rw [if_neg (by omega), show ((j : Int).toNat) = j by omega]
  have : (full (pre s m) s.size)[j]? = some (symN s j) := by
    unfold full
    rw [List.getElem?_append_left (by rw [pre_length]; exact hj), pre_at s m j hj]
  rw [this]; rfl
theorem conv_own2 {w : World} {base n c : Nat} {A : Option Addr} {s : ByteArray} (h : w.ownsRow base 5 1 (.slice A n c) n (byteVals s.data.toList)) : (convert 23 9 (.slice A n c)).run Tryd.prog w = .ok (.string s) w := by
  have hn : s.size = n := by have := h.1; rw [byteVals_length, blen] at this; omega
  refine conv_bs c (Rd.of_own (lo := 0) h (Nat.zero_le _) (Nat.le_refl _)) hn fun hA => ?_
  rcases Nat.eq_zero_or_pos n with h0 | h0
  · exact h0
  · obtain ⟨g, cap, hv, _, _⟩ := h.form h0
    injection hv with hv
    rw [hA] at hv
    cases hv
/-- Two rows of bytes of their own, apart. -/
structure TwoR (b0 : Nat) (W : World) (v1 v2 : Value) (x1 x2 : List UInt8) : Prop where
  one : W.ownsRow b0 5 1 v1 x1.length (byteVals x1)
  two : W.ownsRow b0 5 1 v2 x2.length (byteVals x2)
  apart : ∀ k, v1.ownBlock = some k → v2.ownBlock ≠ some k
theorem TwoR.below {b0 : Nat} {W V : World} {v1 v2 : Value} {x1 x2 : List UInt8} (h : TwoR b0 W v1 v2 x1 x2) (hb : Below W.heap.size W V) : TwoR b0 V v1 v2 x1 x2 := ⟨ownsRow_below h.one hb, ownsRow_below h.two hb, h.apart⟩
theorem TwoR.first {b0 : Nat} {W V : World} {v1 v2 v' : Value} {x1 x2 d : List UInt8} (h : TwoR b0 W v1 v2 x1 x2) (hv : V.ownsRow b0 5 1 v' (x1.length + d.length) (byteVals x1 ++ byteVals d)) (hg : W.grownBy V v1.ownBlock) (hat : v'.ownBlock = v1.ownBlock ∨ v'.ownBlock = some W.heap.size) : TwoR b0 V v' v2 (x1 ++ d) x2 := by
  refine ⟨by rw [List.length_append, show byteVals (x1 ++ d) = byteVals x1 ++ byteVals d by simp [byteVals]]; exact hv, ownsRow_far h.two (fun k hk => hg.block k (h.two.lt k hk).2 (fun e => h.apart k e.symm hk)), fun k hk => ?_⟩
  rcases hat with e | e
  · exact h.apart k (by rw [← e]; exact hk)
  · rw [e] at hk
    injection hk with hk
    intro h2
    have := (h.two.lt k h2).2
    omega
theorem TwoR.second {b0 : Nat} {W V : World} {v1 v2 v' : Value} {x1 x2 d : List UInt8} {o : Obj} (h : TwoR b0 W v1 v2 x1 x2) (hv : V.ownsRow b0 5 1 v' (x2.length + d.length) (byteVals x2 ++ byteVals d)) (hg : (W.alloc o).grownBy V v2.ownBlock) (hat : v'.ownBlock = v2.ownBlock ∨ ∃ k, v'.ownBlock = some k ∧ W.heap.size ≤ k) : TwoR b0 V v1 v' x1 (x2 ++ d) := by
  refine ⟨ownsRow_far h.one (fun k hk => ?_), by rw [List.length_append, show byteVals (x2 ++ d) = byteVals x2 ++ byteVals d by simp [byteVals]]; exact hv, fun k hk => ?_⟩
  · have hl := (h.one.lt k hk).2
    rw [hg.block k (by rw [World.size_alloc]; omega) (fun e => h.apart k hk e.symm)]
    exact Below.heap_alloc W o k hl
  · rcases hat with e | ⟨k', e, hk'⟩
    · rw [e]; exact h.apart k hk
    · rw [e]
      intro h2
      injection h2 with h2
      have := (h.one.lt k hk).2
      omega
theorem runeCells_enc (r : Int) (hr : Scalar r) : Lib.runeCells r = byteVals (Lib.encodeRune r) := by
  rw [← Lib.byteCells_encodeRune]
  simp [byteVals, Lib.byteCells]

set_option maxRecDepth 20000 in
set_option maxHeartbeats 8000000 in
theorem whole_walk {w : World} {A : Option Addr} {n c : Nat} {s : ByteArray} (k : Int) (hT : Lib.Utf8Tabs 0 1 w) (hA : BytesIn w A n c s) :
    Calls Tryd.prog 9 #[.int .i64 k, .slice A n c] w fun e w' => e = .returned (.bool true) ∧ Below w.heap.size w w' := by
  have cH := head_any hT
  by_cases hok : (1 ≤ k ∧ k ≤ 3) ∧ n ≤ 65536
  · go_enter Tryd.func9, Tryd.ntmps9
    go_wp2_with fail
    refine cH.mono ?_
    rintro e w1 ⟨rfl, hb1⟩
    have hA1 := hA.below hb1
    have hT1 := tabs_below hT hb1
    have cN := hA1.new hT1 k hok.1 hok.2
    have hsn := hA.size
    have hn65 := hok.2
    have HB1 := Lib.hid hb1
    clear cH hT hA hb1
    go_wp2_with fail
    refine cN.mono ?_
    rintro e w2 ⟨g, m, hm, rfl, hin, hb2⟩
    have hbe : Below w.heap.size w w2 := HB1.out.trans (hb2.mono HB1.out.size)
    have hms : m ≤ 65536 := by have := hm.le; omega
    have HB := Lib.hid hbe
    have HM := Lib.hid hm
    have HI := Lib.hid hin.1
    have HA2 := Lib.hid (hA1.below hb2)
    have HT2 := Lib.hid (tabs_below hT1 hb2)
    have HSN := Lib.hid hsn
    have HSM : Hid (s.size ≤ 65536) := Lib.hid (by omega)
    clear cN hT1 hA1 hm hb2 hbe HB1 hsn hin hok
    have cL : ∀ W, Below w2.heap.size w2 W → Calls Tryd.prog 15 #[.pointer (some ⟨g, 0, none⟩)] W fun e w' => e = .returned (.int .i64 (m : Int)) ∧ W = w' := fun W hW => by
      have := len_any (HI.out.same (.of_below hW (Nat.le_refl _)))
      rw [fullLen] at this
      rw [show (m : Int) = ((m + 1 : Nat) : Int) - 1 by omega]
      exact this
    have cR : ∀ W, Below w2.heap.size w2 W → ∀ j : Nat, j < m → Calls Tryd.prog 17 #[.pointer (some ⟨g, 0, none⟩), .int .i64 (j : Int)] W fun e w' => e = .returned (.int .i32 ((Utf8.decode s (posN s j)).1 : Int)) ∧ W = w' := fun W hW j hj => by
      have := rune_any (HI.out.same (.of_below hW (Nat.le_refl _))) (j : Int)
      rw [rune_full hj] at this
      exact this
    have cO : ∀ W, Below w2.heap.size w2 W → ∀ j : Nat, j ≤ m → Calls Tryd.prog 19 #[.pointer (some ⟨g, 0, none⟩), .int .i64 (j : Int)] W fun e w' => e = .returned (.int .i64 (posN s j : Int)) ∧ W = w' := fun W hW j hj => by
      have := off_any (HI.out.same (.of_below hW (Nat.le_refl _))) (j : Int)
      rw [offAt_full HM.out hj] at this
      exact this
    have cP : ∀ W, Below w2.heap.size w2 W → ∀ j : Nat, j ≤ m → Calls Tryd.prog 21 #[.pointer (some ⟨g, 0, none⟩), .int .i64 (posN s j : Int)] W fun e w' => e = .returned (.int .i64 (j : Int)) ∧ Below W.heap.size W w' := fun W hW j hj => by
      have hps : posN s j ≤ s.size := by have := posN_le' HM.out hj (Nat.le_refl _); have := HM.out.1; omega
      have := HSM.out
      have hp := place_any (HI.out.same (.of_below hW (Nat.le_refl _))) hW.size (full_rising HM.out) (by rw [fullLen]; omega) (fun p hp => by have := full_small HM.out p hp; omega) (posN s j : Int) (by omega) (by omega)
      rw [place_full HM.out hj] at hp
      exact hp
    have cB : ∀ W, Below w2.heap.size w2 W → ∀ j : Nat, j < m → Calls Tryd.prog 12 #[.pointer (some ⟨g, 0, none⟩), .int .i64 (j : Int), .int .i64 ((j : Int) + 1)] W fun e w' => ∃ v, e = .returned v ∧ w'.ownsRow W.heap.size 5 1 v ((s.data.toList.take (posN s (j + 1))).drop (posN s j)).length (byteVals ((s.data.toList.take (posN s (j + 1))).drop (posN s j))) ∧ Below W.heap.size W w' := fun W hW j hj => by
      have := bytes_any (HI.out.same (.of_below hW (Nat.le_refl _))) hW.size (full_fits HM.out) (by rw [blen]; have := HSM.out; omega) (j : Int) ((j : Int) + 1)
      rw [bytes_step HM.out hj] at this
      exact this
    go_wp2_with fail
    go_loopg [8, 9, 10] (m + 1) (fun q a b i W => ∃ (j : Nat) (O P : Option Addr) (n1 c1 n2 c2 : Nat), q = m + 1 - j ∧ j ≤ m ∧ a = .slice O n1 c1 ∧ b = .slice P n2 c2 ∧ i = .int .i64 (j : Int) ∧ Hid (n1 = (s.data.toList.take (posN s j)).length ∧ n2 = (encL (runesOf s j)).length) ∧ Hid (TwoR w2.heap.size W (.slice O n1 c1) (.slice P n2 c2) (s.data.toList.take (posN s j)) (encL (runesOf s j))) ∧ Hid (Below w2.heap.size w2 W))
    case atStart => exact ⟨0, none, none, 0, 0, 0, 0, rfl, Nat.zero_le _, rfl, rfl, rfl, Lib.hid ⟨by simp [posN], by simp [runesOf, pre, encL]⟩, Lib.hid ⟨by simpa [posN, byteVals] using World.ownsRow_nil _ _ _ _, by simpa [runesOf, pre, encL, byteVals] using World.ownsRow_nil _ _ _ _, by simp [Value.ownBlock]⟩, Lib.hid (Below.refl _ _)⟩
    case round =>
      obtain ⟨j, O, P, n1, c1, n2, c2, hgk, hj, rfl, rfl, rfl, HNN, HR, HW⟩ := hrel
      have HG := Lib.hid hgk
      have HJ := Lib.hid hj
      have cLd := cL wr HW.out
      clear hgk
      go_wp2_with fail
      refine cLd.mono ?_
      rintro e w' ⟨rfl, rfl⟩
      clear cLd
      by_cases hlt : j < m
      · have hi : (j : Int) < (m : Int) := by omega
        have hw1 : IntKind.i64.wrap ((j : Int) + 1) = (j : Int) + 1 := IntWalk.i64_in _ (by omega)
        have hpl : posN s j < posN s (j + 1) := posN_lt s HM.out.2 (Nat.lt_succ_self j) (Nat.succ_le_of_lt hlt)
        have hps : posN s (j + 1) ≤ 65536 := by have h1 := posN_le' HM.out (i := j + 1) (Nat.succ_le_of_lt hlt) (Nat.le_refl _); have h2 := HM.out.1; have h3 := HSM.out; omega
        have cBj := cB wr HW.out j hlt
        have HLT := Lib.hid hlt
        go_wp2_with fail
        refine cBj.mono ?_
        rintro e w5 ⟨v5, rfl, hv5, hb5⟩
        obtain ⟨D, hD⟩ : ∃ D, (s.data.toList.take (posN s (j + 1))).drop (posN s j) = D := ⟨_, rfl⟩
        rw [hD] at hv5
        have hDl : D.length ≤ 65536 := by rw [← hD, List.length_drop, List.length_take]; omega
        obtain ⟨nx, hnx⟩ : ∃ nx, D.length = nx := ⟨_, rfl⟩
        rw [hnx] at hv5 hDl
        obtain ⟨X, xc, rfl, hx1, hx2⟩ := own_form hv5
        have HR5 := Lib.hid (HR.out.below hb5)
        have HW5 := Lib.hid (HW.out.trans (hb5.mono HW.out.size))
        have HDD := Lib.hid hD
        have HNX := Lib.hid hnx
        have hn1 : n1 ≤ 65536 := by have h1 := HNN.out.1; have h2 : (s.data.toList.take (posN s j)).length ≤ posN s j := List.length_take_le _ _; omega
        have HR0 := Lib.hid (Rd.of_own (lo := 0) (U := w5.heap.size) hv5 (Nat.zero_le _) (Nat.le_refl _))
        have hXn : X = none → nx = 0 := fun e => by
          rcases hv5.2 with ⟨h0, _⟩ | ⟨g, cap, cur, h0, _⟩
          · injection h0
          · rw [e] at h0; injection h0 with h0; cases h0
        have HXN := Lib.hid hXn
        have hone := HR5.out.one
        rw [← HNN.out.1] at hone
        have hsz5 := HW5.out.size
        have hnl : (byteVals D).length = nx * 1 := by rw [byteVals_length, HNX.out, Nat.mul_one]
        have HNL := Lib.hid hnl
        clear cBj hb5 hv5 hx1 hx2 HR HW hXn hD hnx hnl
        go_wp2_with (at_builtin; refine wpList_app _ rfl _ _ 23 rfl w2.heap.size 5 elB (.slice O n1 c1) n1 _ rfl hone 0 w5.heap.size X nx xc (byteVals D) rfl HXN.out HNL.out HR0.out (byteVals_one _) (by unfold maxLen; omega) (by omega) hsz5 ?_; intro v6 W6 hv6 hg6 hat6 _)
        have hb6 : Below w2.heap.size w2 W6 := HW5.out.grown hg6 hsz5 (fun q hq => (hone.lt q hq).1)
        rw [HNN.out.1, ← HNX.out] at hv6
        have hR6 := HR5.out.first hv6 hg6 hat6
        rw [← HDD.out, take_step _ (Nat.le_of_lt hpl)] at hR6
        obtain ⟨O6, c6, he6, _, _⟩ := own_form hR6.one
        obtain ⟨n6, hn6⟩ : ∃ n6, n6 = (s.data.toList.take (posN s (j + 1))).length := ⟨_, rfl⟩
        rw [← hn6] at he6
        subst he6
        have HN6 := Lib.hid hn6
        clear hn6
        have HR6 := Lib.hid hR6
        have HW6 := Lib.hid hb6
        have cRj := cR W6 hb6 j hlt
        have hn2 : n2 ≤ 1000000 := by
          have h1 := (encL_len (runesOf s j)).2
          rw [runesOf_len] at h1
          have h2 := HNN.out.2
          omega
        clear hv6 hg6 hat6 hR6 hb6 hone hsz5 HR0 HXN HNL HNX HDD HR5 HW5 hDl hn1
        go_wp2_with fail
        refine cRj.mono ?_
        rintro e w' ⟨rfl, rfl⟩
        have htwo := HR6.out.two
        rw [← HNN.out.2] at htwo
        have hsc := decode_scalar s (posN s j)
        have cA := appA_any htwo hn2 HW6.out.size _ hsc
        rw [runeCells_enc _ hsc] at cA
        clear cRj
        go_wp2_with fail
        refine cA.mono ?_
        rintro e W7 ⟨v7, rfl, hv7, ⟨o7, hg7⟩, hat7⟩
        have hb7 : Below w2.heap.size w2 W7 := (HW6.out.alloc HW6.out.size o7).grown hg7 (by have := HW6.out.size; simp; omega) (fun q hq => (htwo.lt q hq).1)
        rw [byteVals_length, HNN.out.2] at hv7
        have hR7 := HR6.out.second hv7 hg7 hat7
        rw [← encL_one, ← encL_append, ← runesOf_succ] at hR7
        obtain ⟨P7, c7, he7, _, _⟩ := own_form hR7.two
        obtain ⟨n7, hn7⟩ : ∃ n7, n7 = (encL (runesOf s (j + 1))).length := ⟨_, rfl⟩
        rw [← hn7] at he7
        subst he7
        have HN7 := Lib.hid hn7
        clear hn7
        have HR := Lib.hid hR7
        have HW := Lib.hid hb7
        have cO1 : ∀ W, Below w2.heap.size w2 W → Calls Tryd.prog 19 #[.pointer (some ⟨g, 0, none⟩), .int .i64 ((j : Int) + 1)] W fun e w' => e = .returned (.int .i64 (posN s (j + 1) : Int)) ∧ W = w' := fun W hW => by
          have := cO W hW (j + 1) (by have := HLT.out; omega)
          rw [show ((j + 1 : Nat) : Int) = (j : Int) + 1 by omega] at this
          exact this
        have hge : decide ((posN s (j + 1) : Int) ≤ (posN s j : Int)) = false := decide_eq_false (by omega)
        have hgen : decide (posN s (j + 1) ≤ posN s j) = false := decide_eq_false (by omega)
        have hself : ((j : Int) != (j : Int)) = false := by simp
        clear cA htwo hsc hv7 hg7 hat7 hb7 hR7 HR6 HW6 hn2 cR cB cL hpl hps
        go_upto_region 12 with fail
        replace HR := Lib.hid (HR.out.below (Below.refl _ W7).drew)
        replace HW := Lib.hid HW.out.drew
        have hS : (fun _ : World => True) W7.drew := trivial
        refine wp_region_T (S := fun _ => True) (t := 25) (by kernel_rfl) ?_
        refine wpAnyT_take (i := 0) (v := ?_) rfl (by kernel_rfl) (by kernel_rfl) (by kernel_rfl) (fun _ _ _ h => h) (by kernel_rfl) (Or.inl ⟨by rfl, ?_⟩) hS ?_
        rotate_left
        · (intro w _; go_simp; try with_reducible rfl)
        try simp only [Array.getInternal_eq_getElem, List.getElem_toArray, List.getElem_cons_succ, List.getElem_cons_zero, Act.put, List.setIfInBounds_toArray, List.set_cons_zero, List.set_cons_succ]
        refine wpAnyT_take (i := 1) (v := ?_) rfl (by kernel_rfl) (by kernel_rfl) (by kernel_rfl) (fun _ _ _ h => h) (by kernel_rfl) (Or.inl ⟨by rfl, ?_⟩) hS ?_
        rotate_left
        · (intro w _; go_simp; try with_reducible rfl)
        try simp only [Array.getInternal_eq_getElem, List.getElem_toArray, List.getElem_cons_succ, List.getElem_cons_zero, Act.put, List.setIfInBounds_toArray, List.set_cons_zero, List.set_cons_succ]
        refine wpAnyT_take (i := 2) (v := ?_) rfl (by kernel_rfl) (by kernel_rfl) (by kernel_rfl) (fun _ _ _ h => h) (by kernel_rfl) (Or.inl ⟨by rfl, ?_⟩) hS ?_
        rotate_left
        · (intro w _; go_simp; try with_reducible rfl)
        try simp only [Array.getInternal_eq_getElem, List.getElem_toArray, List.getElem_cons_succ, List.getElem_cons_zero, Act.put, List.setIfInBounds_toArray, List.set_cons_zero, List.set_cons_succ]
        refine wpAnyT_take (i := 3) (v := ?_) rfl (by kernel_rfl) (by kernel_rfl) (by kernel_rfl) (fun _ _ _ h => h) (by kernel_rfl) (Or.inl ⟨by rfl, ?_⟩) hS ?_
        rotate_left
        · (intro w _; go_simp; try with_reducible rfl)
        try simp only [Array.getInternal_eq_getElem, List.getElem_toArray, List.getElem_cons_succ, List.getElem_cons_zero, Act.put, List.setIfInBounds_toArray, List.set_cons_zero, List.set_cons_succ]
        refine wpAnyT_take (i := 5) (v := ?_) rfl (by kernel_rfl) (by kernel_rfl) (by kernel_rfl) (fun _ _ _ h => h) (by kernel_rfl) (Or.inl ⟨by rfl, ?_⟩) hS ?_
        rotate_left
        · (intro w _; go_simp; try with_reducible rfl)
        try simp only [Array.getInternal_eq_getElem, List.getElem_toArray, List.getElem_cons_succ, List.getElem_cons_zero, Act.put, List.setIfInBounds_toArray, List.set_cons_zero, List.set_cons_succ]
        refine wpAnyT_take (i := 6) (v := ?_) rfl (by kernel_rfl) (by kernel_rfl) (by kernel_rfl) (fun _ _ _ h => h) (by kernel_rfl) (Or.inl ⟨by rfl, ?_⟩) hS ?_
        rotate_left
        · (intro w _; go_simp; try with_reducible rfl)
        try simp only [Array.getInternal_eq_getElem, List.getElem_toArray, List.getElem_cons_succ, List.getElem_cons_zero, Act.put, List.setIfInBounds_toArray, List.set_cons_zero, List.set_cons_succ]
        refine wpAnyT_take (i := 7) (v := ?_) rfl (by kernel_rfl) (by kernel_rfl) (by kernel_rfl) (fun _ _ _ h => h) (by kernel_rfl) (Or.inl ⟨by rfl, ?_⟩) hS ?_
        rotate_left
        · (intro w _; go_simp; try with_reducible rfl)
        try simp only [Array.getInternal_eq_getElem, List.getElem_toArray, List.getElem_cons_succ, List.getElem_cons_zero, Act.put, List.setIfInBounds_toArray, List.set_cons_zero, List.set_cons_succ]
        refine wpAnyT_take (i := 8) (v := ?_) rfl (by kernel_rfl) (by kernel_rfl) (by kernel_rfl) (fun _ _ _ h => h) (by kernel_rfl) (Or.inl ⟨by rfl, ?_⟩) hS ?_
        rotate_left
        · (intro w _; go_simp; try with_reducible rfl)
        try simp only [Array.getInternal_eq_getElem, List.getElem_toArray, List.getElem_cons_succ, List.getElem_cons_zero, Act.put, List.setIfInBounds_toArray, List.set_cons_zero, List.set_cons_succ]
        refine wpAnyT_take (i := 9) (v := ?_) rfl (by kernel_rfl) (by kernel_rfl) (by kernel_rfl) (fun _ _ _ h => h) (by kernel_rfl) (Or.inl ⟨by rfl, ?_⟩) hS ?_
        rotate_left
        · (intro w _; go_simp; try with_reducible rfl)
        try simp only [Array.getInternal_eq_getElem, List.getElem_toArray, List.getElem_cons_succ, List.getElem_cons_zero, Act.put, List.setIfInBounds_toArray, List.set_cons_zero, List.set_cons_succ]
        refine wpAnyT_one (i := 4) (by kernel_rfl) rfl (fun K hK => ?_)
        go_simp
        refine (cO _ HW.out j (by omega)).mono ?_
        rintro e w' ⟨rfl, rfl⟩
        go_simp
        replace hS := trivial
        refine hK _ _ (Or.inr hS) ?_
        clear hK K
        try simp only [Array.getInternal_eq_getElem, List.getElem_toArray, List.getElem_cons_succ, List.getElem_cons_zero, Act.put, List.setIfInBounds_toArray, List.set_cons_zero, List.set_cons_succ]
        refine wpAnyT_one (i := 10) (by kernel_rfl) rfl (fun K hK => ?_)
        go_simp
        refine (cO1 _ HW.out).mono ?_
        rintro e w' ⟨rfl, rfl⟩
        go_simp
        replace hS := trivial
        refine hK _ _ (Or.inr hS) ?_
        clear hK K
        try simp only [Array.getInternal_eq_getElem, List.getElem_toArray, List.getElem_cons_succ, List.getElem_cons_zero, Act.put, List.setIfInBounds_toArray, List.set_cons_zero, List.set_cons_succ]
        refine wpAnyT_take (i := 11) (v := ?_) rfl (by kernel_rfl) (by kernel_rfl) (by kernel_rfl) (fun _ _ _ h => h) (by kernel_rfl) (Or.inl ⟨by rfl, ?_⟩) hS ?_
        rotate_left
        · (intro w _; go_simp; try with_reducible rfl)
        try simp only [Array.getInternal_eq_getElem, List.getElem_toArray, List.getElem_cons_succ, List.getElem_cons_zero, Act.put, List.setIfInBounds_toArray, List.set_cons_zero, List.set_cons_succ]
        refine wpAnyT_take (i := 12) (v := ?_) rfl (by kernel_rfl) (by kernel_rfl) (by kernel_rfl) (fun _ _ _ h => h) (by kernel_rfl) (Or.inl ⟨by rfl, ?_⟩) hS ?_
        rotate_left
        · (intro w _; go_simp; try with_reducible rfl)
        try simp only [Array.getInternal_eq_getElem, List.getElem_toArray, List.getElem_cons_succ, List.getElem_cons_zero, Act.put, List.setIfInBounds_toArray, List.set_cons_zero, List.set_cons_succ]
        refine wpAnyT_take (i := 13) (v := ?_) rfl (by kernel_rfl) (by kernel_rfl) (by kernel_rfl) (fun _ _ _ h => h) (by kernel_rfl) (Or.inl ⟨by rfl, ?_⟩) hS ?_
        rotate_left
        · (intro w _; go_simp; try with_reducible rfl)
        try simp only [Array.getInternal_eq_getElem, List.getElem_toArray, List.getElem_cons_succ, List.getElem_cons_zero, Act.put, List.setIfInBounds_toArray, List.set_cons_zero, List.set_cons_succ]
        refine wpAnyT_take (i := 14) (v := ?_) rfl (by kernel_rfl) (by kernel_rfl) (by kernel_rfl) (fun _ _ _ h => h) (by kernel_rfl) (Or.inl ⟨by rfl, ?_⟩) hS ?_
        rotate_left
        · (intro w _; go_simp; try with_reducible rfl)
        try simp only [Array.getInternal_eq_getElem, List.getElem_toArray, List.getElem_cons_succ, List.getElem_cons_zero, Act.put, List.setIfInBounds_toArray, List.set_cons_zero, List.set_cons_succ]
        refine wpAnyT_take (i := 15) (v := ?_) rfl (by kernel_rfl) (by kernel_rfl) (by kernel_rfl) (fun _ _ _ h => h) (by kernel_rfl) (Or.inl ⟨by rfl, ?_⟩) hS ?_
        rotate_left
        · (intro w _; go_simp; try with_reducible rfl)
        try simp only [Array.getInternal_eq_getElem, List.getElem_toArray, List.getElem_cons_succ, List.getElem_cons_zero, Act.put, List.setIfInBounds_toArray, List.set_cons_zero, List.set_cons_succ]
        refine wpAnyT_take (i := 16) (v := ?_) rfl (by kernel_rfl) (by kernel_rfl) (by kernel_rfl) (fun _ _ _ h => h) (by kernel_rfl) (Or.inl ⟨by rfl, ?_⟩) hS ?_
        rotate_left
        · (intro w _; go_simp; try with_reducible rfl)
        try simp only [Array.getInternal_eq_getElem, List.getElem_toArray, List.getElem_cons_succ, List.getElem_cons_zero, Act.put, List.setIfInBounds_toArray, List.set_cons_zero, List.set_cons_succ]
        refine wpAnyT_take (i := 17) (v := ?_) rfl (by kernel_rfl) (by kernel_rfl) (by kernel_rfl) (fun _ _ _ h => h) (by kernel_rfl) (Or.inl ⟨by rfl, ?_⟩) hS ?_
        rotate_left
        · (intro w _; go_simp; try with_reducible rfl)
        try simp only [Array.getInternal_eq_getElem, List.getElem_toArray, List.getElem_cons_succ, List.getElem_cons_zero, Act.put, List.setIfInBounds_toArray, List.set_cons_zero, List.set_cons_succ]
        refine wpAnyT_take (i := 18) (v := ?_) rfl (by kernel_rfl) (by kernel_rfl) (by kernel_rfl) (fun _ _ _ h => h) (by kernel_rfl) (Or.inl ⟨by rfl, ?_⟩) hS ?_
        rotate_left
        · (intro w _; go_simp; try with_reducible rfl)
        try simp only [Array.getInternal_eq_getElem, List.getElem_toArray, List.getElem_cons_succ, List.getElem_cons_zero, Act.put, List.setIfInBounds_toArray, List.set_cons_zero, List.set_cons_succ]
        refine wpAnyT_take (i := 19) (v := ?_) rfl (by kernel_rfl) (by kernel_rfl) (by kernel_rfl) (fun _ _ _ h => h) (by kernel_rfl) (Or.inl ⟨by rfl, ?_⟩) hS ?_
        rotate_left
        · (intro w _; go_simp; try with_reducible rfl)
        try simp only [Array.getInternal_eq_getElem, List.getElem_toArray, List.getElem_cons_succ, List.getElem_cons_zero, Act.put, List.setIfInBounds_toArray, List.set_cons_zero, List.set_cons_succ]
        refine wpAnyT_take (i := 22) (v := ?_) rfl (by kernel_rfl) (by kernel_rfl) (by kernel_rfl) (fun _ _ _ h => h) (by kernel_rfl) (Or.inl ⟨by rfl, ?_⟩) hS ?_
        rotate_left
        · (intro w _; go_simp; try with_reducible rfl)
        try simp only [Array.getInternal_eq_getElem, List.getElem_toArray, List.getElem_cons_succ, List.getElem_cons_zero, Act.put, List.setIfInBounds_toArray, List.set_cons_zero, List.set_cons_succ]
        refine wpAnyT_one (i := 20) (by kernel_rfl) rfl (fun K hK => ?_)
        go_simp
        refine (cO _ HW.out j (by omega)).mono ?_
        rintro e w' ⟨rfl, rfl⟩
        go_simp
        replace hS := trivial
        refine hK _ _ (Or.inr hS) ?_
        clear hK K
        try simp only [Array.getInternal_eq_getElem, List.getElem_toArray, List.getElem_cons_succ, List.getElem_cons_zero, Act.put, List.setIfInBounds_toArray, List.set_cons_zero, List.set_cons_succ]
        refine wpAnyT_one (i := 21) (by kernel_rfl) rfl (fun K hK => ?_)
        go_simp
        refine (cP _ HW.out j (by omega)).mono ?_
        rintro e w9 ⟨rfl, hb9⟩
        replace HR := Lib.hid (HR.out.below hb9)
        replace HW := Lib.hid (HW.out.trans (hb9.mono HW.out.size))
        clear hb9
        go_simp
        replace hS := trivial
        refine hK _ _ (Or.inr hS) ?_
        clear hK K
        try simp only [Array.getInternal_eq_getElem, List.getElem_toArray, List.getElem_cons_succ, List.getElem_cons_zero, Act.put, List.setIfInBounds_toArray, List.set_cons_zero, List.set_cons_succ]
        refine wpAnyT_take (i := 23) (v := ?_) rfl (by kernel_rfl) (by kernel_rfl) (by kernel_rfl) (fun _ _ _ h => h) (by kernel_rfl) (Or.inl ⟨by rfl, ?_⟩) hS ?_
        rotate_left
        · (intro w _; go_simp; try with_reducible rfl)
        try simp only [Array.getInternal_eq_getElem, List.getElem_toArray, List.getElem_cons_succ, List.getElem_cons_zero, Act.put, List.setIfInBounds_toArray, List.set_cons_zero, List.set_cons_succ]
        refine wpAnyT_take (i := 24) (v := ?_) rfl (by kernel_rfl) (by kernel_rfl) (by kernel_rfl) (fun _ _ _ h => h) (by kernel_rfl) (Or.inl ⟨by rfl, ?_⟩) hS ?_
        rotate_left
        · (intro w _; go_simp; try with_reducible rfl)
        try simp only [Array.getInternal_eq_getElem, List.getElem_toArray, List.getElem_cons_succ, List.getElem_cons_zero, Act.put, List.setIfInBounds_toArray, List.set_cons_zero, List.set_cons_succ]
        refine wpAnyT_done (by kernel_rfl) ?_ _
        go_wp2_with fail
        go_roundg (m + 1 - (j + 1))
        case measure => have := HG.out; have := HLT.out; omega
        case rel => exact ⟨j + 1, O6, P7, n6, c6, n7, c7, rfl, by have := HLT.out; omega, rfl, rfl, by go_num, Lib.hid ⟨HN6.out, HN7.out⟩, HR, HW⟩
      · have hi : ¬ (j : Int) < (m : Int) := by omega
        obtain rfl : j = m := by omega
        have hall : s.data.toList.take (posN s j) = s.data.toList := by rw [HM.out.1, ← blen, List.take_length]
        have HN1 : Hid (n1 = s.data.toList.length) := Lib.hid (by rw [HNN.out.1, hall])
        have HALL := Lib.hid hall
        clear hall
        have hcv1 := fun V (hV : Below wr.heap.size wr V) => conv_own2 (base := w2.heap.size) (n := n1) (c := c1) (A := O) (s := s) (by have := HR.out.one; rw [HALL.out, ← HN1.out] at this; exact ownsRow_below this hV)
        have hcv2 := fun V (hV : Below wr.heap.size wr V) => conv_bs (lo := 0) (U := V.heap.size) c ((HA2.out.below (HW.out.trans (hV.mono HW.out.size))).rd) HA2.out.size HA2.out.nil
        have hss : (s.toList == s.toList) = true := by simp
        have cV := valid_any (tabs_below HT2.out HW.out) (HA2.out.below HW.out).rd HA2.out.size HA2.out.le HA2.out.max hn65
        have d1 := hcv1 wr (Below.refl _ _)
        have d2 := hcv2 wr (Below.refl _ _)
        have HC2 := Lib.hid hcv2
        clear hlt hcv1 hcv2 cR cB cL cO cP
        go_wp2_with fail
        refine cV.mono ?_
        rintro e w9 ⟨v9, rfl, hv9, hb9⟩
        have d3 := HC2.out w9 hb9
        have HW9 := Lib.hid (HB.out.trans ((HW.out.trans (hb9.mono HW.out.size)).mono HB.out.size))
        cases v9 with
        | false =>
          clear cV d1 d2 d3 hb9 hv9
          go_wp2_with fail
          go_ret
          exact ⟨rfl, HW9.out⟩
        | true =>
          have hen := (whole_enc HM.out (hv9 rfl) j (Nat.le_refl _)).2
          rw [HALL.out] at hen
          have h2 := ownsRow_below HR.out.two hb9
          rw [hen] at h2
          have hn2 : n2 = s.data.toList.length := by rw [HNN.out.2, hen]
          have d4 := conv_own2 (base := w2.heap.size) (n := n2) (c := c2) (A := P) (s := s) (by rw [← hn2] at h2; exact h2)
          clear cV d1 d2 hb9 hv9 hen h2 hn2
          go_wp2_with fail
          go_ret
          exact ⟨rfl, HW9.out⟩
  · go_enter Tryd.func9, Tryd.ntmps9
    go_wp2_with fail
    refine cH.mono ?_
    rintro e w1 ⟨rfl, hb1⟩
    have hm : n ≤ maxLen := Nat.le_trans hA.le hA.max
    have cN : Calls Tryd.prog 25 #[.int .i64 k, .slice A n c] w1 fun e w' => ∃ x : Int, (x = 1 ∨ x = 2) ∧ e = .returned (.tuple #[.pointer none, .int .i64 x]) ∧ w1 = w' := by
      by_cases hk : k < 1 ∨ 3 < k
      · exact (new_arg k A n c w1 hk).mono fun e w' ⟨h1, h2⟩ => ⟨1, .inl rfl, h1, by rw [h2]⟩
      · exact (new_many k A n c w1 (by omega) (by omega) hm).mono fun e w' ⟨h1, h2⟩ => ⟨2, .inr rfl, h1, by rw [h2]⟩
    clear cH hT hA
    go_wp2_with fail
    refine cN.mono ?_
    rintro e w' ⟨x, hx, rfl, rfl⟩
    rcases hx with rfl | rfl
    all_goals
      go_wp2_with fail
      go_ret
      exact ⟨rfl, hb1⟩
end Go.Proofs.YtkiljhlbeffnfaaDoor
