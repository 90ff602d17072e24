/- InputsBytes: the walk. -/
import Derived.Test.YtkiljhlbeffnfaaDoorLawK
import Derived.RegionTactic
namespace Go.Proofs.YtkiljhlbeffnfaaDoor
open Go.RowKit

theorem keep_below {W0 W W' : World} (h' : Below W.heap.size W W') (h : Below W0.heap.size W0 W) : Below W0.heap.size W0 W' := h.trans (h'.mono h.size)

/-- What a call that hands out bytes leaves. -/
def BytesPost (w : World) (X : List UInt8) (e : Ending) (w' : World) : Prop :=
  ∃ O n oc, e = .returned (.slice O n oc) ∧ (n ≤ 140737488355328 ∧ n ≤ oc ∧ oc ≤ maxLen) ∧ Hid (n = X.length ∧ w'.ownsRow w.heap.size 5 1 (.slice O n oc) n (byteVals X)) ∧
    (∀ wr, Below w'.heap.size w' wr → (convert 23 9 (.slice O n oc)).run Tryd.prog wr = .ok (.string ⟨X.toArray⟩) wr) ∧ Below w.heap.size w w'
theorem bytesPost_of {w w' : World} {X : List UInt8} {v : Value} (hX : X.length ≤ 140737488355328) (h : w'.ownsRow w.heap.size 5 1 v X.length (byteVals X)) (hb : Below w.heap.size w w') : BytesPost w X (.returned v) w' := by
  obtain ⟨O, oc, rfl, ho1, ho2⟩ := own_form h
  have hR : Rd w' 0 w'.heap.size O (byteVals X) := Rd.of_own h (Nat.zero_le _) (Nat.le_refl _)
  have hON : O = none → X.length = 0 := by
    intro h0
    rcases Nat.eq_zero_or_pos X.length with h1 | h1
    · exact h1
    · obtain ⟨_, _, h2, _⟩ := hR (by rw [byteVals_length]; exact h1)
      rw [h2] at h0; cases h0
  exact ⟨O, _, oc, rfl, ⟨hX, ho1, ho2⟩, Lib.hid ⟨rfl, h⟩, fun wr hbr => conv_bs (s := ⟨X.toArray⟩) oc (by simpa using hR.same (.of_below hbr (Nat.le_refl _))) (by simp [ByteArray.size]) hON, hb⟩

theorem bytesOf_len (l : List (Int × Nat)) (s : List UInt8) (i j : Int) : (bytesOf l s i j).length ≤ s.length := by
  unfold bytesOf
  split
  · simp
  · simp; omega
theorem bytesIn_any {w : World} {lo U g : Nat} {k : Int} {s : ByteArray} {m : Nat} (hm : Cnt s m) (h : InAt w lo U g k (full (pre s m) s.size) s.data.toList) (hU : U ≤ w.heap.size) (hbig : s.size ≤ 65536) (i j : Int) :
    Calls Tryd.prog 12 #[.pointer (some ⟨g, 0, none⟩), .int .i64 i, .int .i64 j] w (BytesPost w (bytesOf (full (pre s m) s.size) s.data.toList i j)) := by
  refine (bytes_any h.1 hU (full_fits hm) (by rw [blen]; omega) i j).mono ?_
  rintro e w' ⟨v, rfl, h1, h2⟩
  exact bytesPost_of (Nat.le_trans (bytesOf_len _ _ _ _) (by rw [blen]; omega)) h1 h2
theorem bytesRef_any {w : World} {lo U g : Nat} {s : ByteArray} {m : Nat} (hm : Cnt s m) (h : RefAt w lo U g (pre s m) s.size s.data.toList) (hU : U ≤ w.heap.size) (hbig : s.size ≤ 65536) (i j : Int) :
    Calls Tryd.prog 13 #[.pointer (some ⟨g, 0, none⟩), .int .i64 i, .int .i64 j] w (BytesPost w (bytesOf (full (pre s m) s.size) s.data.toList i j)) := by
  refine (refBytes_any h hU (full_fits hm) (by rw [blen]; omega) i j).mono ?_
  rintro e w' ⟨v, rfl, h1, h2⟩
  exact bytesPost_of (Nat.le_trans (bytesOf_len _ _ _ _) (by rw [blen]; omega)) h1 h2

set_option maxRecDepth 20000 in
set_option maxHeartbeats 4000000 in
theorem bytes_walk {w : World} {A : Option Addr} {n c : Nat} {s : ByteArray} (k a b : Int) (hT : Lib.Utf8Tabs 0 1 w) (hA : BytesIn w A n c s) :
    Calls Tryd.prog 3 #[.int .i64 k, .slice A n c, .int .i64 a, .int .i64 b] w fun e w' => e = .returned (.bool true) ∧ Below w.heap.size w w' := by
  have cH := head_any hT
  by_cases hok : (1 ≤ k ∧ k ≤ 3) ∧ n ≤ 65536
  · go_enter Tryd.func3, Tryd.ntmps3
    go_wp2_with fail
    refine cH.mono ?_
    rintro e w1 ⟨rfl, hb1⟩
    have hA1 := hA.below hb1
    have cB := both_ok k hok.1 (tabs_below hT hb1) hA1.rd (Nat.le_refl _) hA1.size hA1.le hA1.max hA1.nil hok.2
    have hsn := hA.size
    have hn65 := hok.2
    clear cH hT hA hA1 hok
    go_wp2_with fail
    refine cB.mono ?_
    rintro e w2 ⟨g, g', m, lo, U, lo', U', hm, rfl, h1, h2, h3, h4, hin, href, hb2⟩
    have cI : ∀ W, Same 0 w2.heap.size w2 W → w2.heap.size ≤ W.heap.size → Calls Tryd.prog 12 #[.pointer (some ⟨g, 0, none⟩), .int .i64 a, .int .i64 b] W (BytesPost W (bytesOf (full (pre s m) s.size) s.data.toList a b)) :=
      fun W h hle => bytesIn_any hm (hin.same (h.mono (Nat.zero_le _) h3)) (Nat.le_trans h3 hle) (by omega) a b
    have cD : ∀ W, Same 0 w2.heap.size w2 W → w2.heap.size ≤ W.heap.size → Calls Tryd.prog 13 #[.pointer (some ⟨g', 0, none⟩), .int .i64 a, .int .i64 b] W (BytesPost W (bytesOf (full (pre s m) s.size) s.data.toList a b)) :=
      fun W h hle => bytesRef_any hm (href.same (h.mono (Nat.zero_le _) h4)) (Nat.le_trans h4 hle) (by omega) a b
    generalize bytesOf (full (pre s m) s.size) s.data.toList a b = X at cI cD
    have hbe := hb1.trans (hb2.mono hb1.size)
    have HB := Lib.hid hbe
    have CI := Lib.hid cI
    have CD := Lib.hid cD
    have cI2 := cI w2 (Same.refl _ _ _) (Nat.le_refl _)
    clear hb1 hb2 hbe hin href cB hm cI cD h1 h2 h3 h4
    go_wp2_with fail
    refine cI2.mono ?_
    rintro e w3 ⟨O, q, oc, rfl, hq, hown, hcv, hb3⟩
    have hc3 := hcv w3 (Below.refl _ _)
    have HCV := Lib.hid hcv
    have H3 := Lib.hid hb3
    have HQ := Lib.hid hq
    clear cI2 hcv hb3 hq
    have hc3d := HCV.out w3.drew (Below.refl _ _).drew
    go_wp2_with fail
    go_region_with (first
      | (go_at_call 13; refine (CD.out w3.drew (Same.of_below H3.out (Nat.le_refl _)).drew H3.out.size).mono ?_; rintro e w4 ⟨O4, q4, oc4, rfl, hq4, hown4, hcv4, hb4⟩; have hc4 := hcv4 w4 (Below.refl _ _); have hc34 := HCV.out w4 hb4.undrew; clear hcv4))
    all_goals
      have HB4 := Lib.hid hb4
      clear hc4 hc34 hown4 hq4 hb4 hc3 hc3d HCV
      obtain ⟨q1, q2, q3⟩ := HQ.out
      have hov3 := ownsRow_below hown.out.2 HB4.out.undrew
      rw [byteVals_ints] at hov3
      have hlen : (X.map fun c => (c.toNat : Int)).length = q := by rw [List.length_map]; exact hown.out.1.symm
      generalize (X.map fun c => (c.toNat : Int)) = zs at hov3 hlen
      have HOV := Lib.hid hov3
      have HLEN := Lib.hid hlen
      unfold maxLen at q3
      have hrow : ∀ k, (Value.slice O q oc).ownBlock = some k → w2.heap.size ≤ k := fun k hk => (HOV.out.lt k hk).1
      have HROW := Lib.hid hrow
      clear hov3 hlen hrow HQ hown
      go_wp2_with fail
      go_loopg [15] (q + 1) (fun x i wr => ∃ j : Nat, x = q + 1 - j ∧ j ≤ q ∧ i = .int .i64 j ∧ Hid (w4.grownBy wr (Value.slice O q oc).ownBlock ∧ ∃ zs : List Int, zs.length = q ∧ wr.ownsRow w2.heap.size 5 1 (.slice O q oc) q (zs.map (Value.int .u8))))
      case atStart => exact ⟨0, rfl, Nat.zero_le _, rfl, Lib.hid ⟨World.grownBy.refl _ _, zs, HLEN.out, HOV.out⟩⟩
      case round =>
        obtain ⟨j, hgk, hj, rfl, HR⟩ := hrel
        have HG := Lib.hid hgk
        clear hgk
        by_cases hlt : j < q
        · obtain ⟨hgr, zs', hz, hown⟩ := HR.out
          obtain ⟨gg, cap, hv, _, _⟩ := hown.form (by omega)
          have hO : O = some ⟨gg, 0, none⟩ := by injection hv
          have hcell : wr.cell? ⟨gg, j, none⟩ = some (.int .u8 (zs'[j]'(by omega))) := by
            subst hO
            rw [hown.cellAt j (by omega)]
            simp [hz, hlt]
          have hfz : wr.frozen? ⟨gg, j, none⟩ = false := by subst hO; exact hown.frozenAt j
          have hnext : ∀ x, Hid (w4.grownBy (wr.setCell ⟨gg, j, none⟩ (.int .u8 x)) (Value.slice O q oc).ownBlock ∧ ∃ zs : List Int, zs.length = q ∧ (wr.setCell ⟨gg, j, none⟩ (.int .u8 x)).ownsRow w2.heap.size 5 1 (.slice O q oc) q (zs.map (Value.int .u8))) := by
            intro x
            subst hO
            obtain ⟨h1, h2⟩ := ownB_set hown j x
            exact Lib.hid ⟨grownBy_trans' hgr h2, _, by rw [List.length_set]; exact hz, h1⟩
          generalize zs'[j]'(by omega) = z at hcell
          clear hgr hown hv hz HR
          subst hO
          have HN := Lib.hid hnext
          clear hnext HROW HOV HLEN HB HB4 H3 CI CD
          go_wp2_with fail
          go_roundg (q + 1 - (j + 1))
          case measure => have := HG.out; omega
          case rel => exact ⟨j + 1, rfl, by omega, by go_num, HN.out _⟩
        · have hJ := HR.out.1
          have hle4 : w2.heap.size ≤ w4.heap.size := Nat.le_trans H3.out.size HB4.out.undrew.size
          have hbw : Below w2.heap.size w2 wr := (H3.out.trans (HB4.out.undrew.mono H3.out.size)).grown hJ hle4 HROW.out
          have HW := Lib.hid hbw
          clear HR HROW HOV HLEN HB4 H3 hJ hbw hle4
          go_wp2_with fail
          refine wp_region_any (by kernel_rfl) ?_
          change wpAny _ _ _ _ _ _ _ (World.drew _)
          refine wpAny_take (i := 0) (v := ?_) rfl (by kernel_rfl) (by kernel_rfl) (by kernel_rfl) (fun _ _ _ h => h) (Or.inl ⟨by rfl, ?_⟩) ?_
          rotate_left
          · (intro w; go_simp; try with_reducible rfl)
          try simp only [Array.getInternal_eq_getElem, List.getElem_toArray, List.getElem_cons_succ, List.getElem_cons_zero, Act.put, List.setIfInBounds_toArray, List.set_cons_zero, List.set_cons_succ]
          refine wpAny_take (i := 1) (v := ?_) rfl (by kernel_rfl) (by kernel_rfl) (by kernel_rfl) (fun _ _ _ h => h) (Or.inl ⟨by rfl, ?_⟩) ?_
          rotate_left
          · (intro w; go_simp; try with_reducible rfl)
          try simp only [Array.getInternal_eq_getElem, List.getElem_toArray, List.getElem_cons_succ, List.getElem_cons_zero, Act.put, List.setIfInBounds_toArray, List.set_cons_zero, List.set_cons_succ]
          refine wpAny_take (i := 2) (v := ?_) rfl (by kernel_rfl) (by kernel_rfl) (by kernel_rfl) (fun _ _ _ h => h) (Or.inl ⟨by rfl, ?_⟩) ?_
          rotate_left
          · (intro w; go_simp; try with_reducible rfl)
          try simp only [Array.getInternal_eq_getElem, List.getElem_toArray, List.getElem_cons_succ, List.getElem_cons_zero, Act.put, List.setIfInBounds_toArray, List.set_cons_zero, List.set_cons_succ]
          refine wpAny_take (i := 3) (v := ?_) rfl (by kernel_rfl) (by kernel_rfl) (by kernel_rfl) (fun _ _ _ h => h) (Or.inl ⟨by rfl, ?_⟩) ?_
          rotate_left
          · (intro w; go_simp; try with_reducible rfl)
          try simp only [Array.getInternal_eq_getElem, List.getElem_toArray, List.getElem_cons_succ, List.getElem_cons_zero, Act.put, List.setIfInBounds_toArray, List.set_cons_zero, List.set_cons_succ]
          refine wpAny_take (i := 4) (v := ?_) rfl (by kernel_rfl) (by kernel_rfl) (by kernel_rfl) (fun _ _ _ h => h) (Or.inl ⟨by rfl, ?_⟩) ?_
          rotate_left
          · (intro w; go_simp; try with_reducible rfl)
          try simp only [Array.getInternal_eq_getElem, List.getElem_toArray, List.getElem_cons_succ, List.getElem_cons_zero, Act.put, List.setIfInBounds_toArray, List.set_cons_zero, List.set_cons_succ]
          refine wpAny_take (i := 5) (v := ?_) rfl (by kernel_rfl) (by kernel_rfl) (by kernel_rfl) (fun _ _ _ h => h) (Or.inl ⟨by rfl, ?_⟩) ?_
          rotate_left
          · (intro w; go_simp; try with_reducible rfl)
          try simp only [Array.getInternal_eq_getElem, List.getElem_toArray, List.getElem_cons_succ, List.getElem_cons_zero, Act.put, List.setIfInBounds_toArray, List.set_cons_zero, List.set_cons_succ]
          refine wpAny_take (i := 6) (v := ?_) rfl (by kernel_rfl) (by kernel_rfl) (by kernel_rfl) (fun _ _ _ h => h) (Or.inl ⟨by rfl, ?_⟩) ?_
          rotate_left
          · (intro w; go_simp; try with_reducible rfl)
          try simp only [Array.getInternal_eq_getElem, List.getElem_toArray, List.getElem_cons_succ, List.getElem_cons_zero, Act.put, List.setIfInBounds_toArray, List.set_cons_zero, List.set_cons_succ]
          refine wpAny_take (i := 9) (v := ?_) rfl (by kernel_rfl) (by kernel_rfl) (by kernel_rfl) (fun _ _ _ h => h) (Or.inl ⟨by rfl, ?_⟩) ?_
          rotate_left
          · (intro w; go_simp; try with_reducible rfl)
          try simp only [Array.getInternal_eq_getElem, List.getElem_toArray, List.getElem_cons_succ, List.getElem_cons_zero, Act.put, List.setIfInBounds_toArray, List.set_cons_zero, List.set_cons_succ]
          refine wpAny_take (i := 10) (v := ?_) rfl (by kernel_rfl) (by kernel_rfl) (by kernel_rfl) (fun _ _ _ h => h) (Or.inl ⟨by rfl, ?_⟩) ?_
          rotate_left
          · (intro w; go_simp; try with_reducible rfl)
          try simp only [Array.getInternal_eq_getElem, List.getElem_toArray, List.getElem_cons_succ, List.getElem_cons_zero, Act.put, List.setIfInBounds_toArray, List.set_cons_zero, List.set_cons_succ]
          refine wpAny_take (i := 11) (v := ?_) rfl (by kernel_rfl) (by kernel_rfl) (by kernel_rfl) (fun _ _ _ h => h) (Or.inl ⟨by rfl, ?_⟩) ?_
          rotate_left
          · (intro w; go_simp; try with_reducible rfl)
          try simp only [Array.getInternal_eq_getElem, List.getElem_toArray, List.getElem_cons_succ, List.getElem_cons_zero, Act.put, List.setIfInBounds_toArray, List.set_cons_zero, List.set_cons_succ]
          refine wpAny_ready (rs := [7]) (by kernel_rfl) (by simp) ?_
          refine AllReady.cons rfl (fun K hK => ?_) ?_
          · go_simp
            refine (CI.out wr.drew (Same.of_below HW.out (Nat.le_refl _)).drew HW.out.size).mono ?_
            rintro e w6 ⟨O6, q6, oc6, rfl, hq6, hown6, hcv6, hb6⟩
            have hc6 := hcv6 w6 (Below.refl _ _)
            have hw6 := HW.out.trans (hb6.undrew.mono HW.out.size)
            have HCV6 := Lib.hid hcv6
            clear hcv6 hq6 hown6
            go_wp2_with fail
            try simp only [Array.getInternal_eq_getElem, List.getElem_toArray, List.getElem_cons_succ, List.getElem_cons_zero, Act.put, List.setIfInBounds_toArray, List.set_cons_zero, List.set_cons_succ]
            refine wpAny_ready (rs := [8, 12]) (by kernel_rfl) (by simp) ?_
            refine AllReady.cons rfl (fun K hK => ?_) ?_
            · go_simp
              refine hK _ _ ?_
              clear hK K
              try simp only [Array.getInternal_eq_getElem, List.getElem_toArray, List.getElem_cons_succ, List.getElem_cons_zero, Act.put, List.setIfInBounds_toArray, List.set_cons_zero, List.set_cons_succ]
              refine wpAny_ready (rs := [12]) (by kernel_rfl) (by simp) ?_
              refine AllReady.cons rfl (fun K hK => ?_) ?_
              · go_simp
                refine (CD.out w6 (Same.of_below hw6 (Nat.le_refl _)) hw6.size).mono ?_
                rintro e w5 ⟨O5, q5, oc5, rfl, hq5, hown5, hcv5, hb5⟩
                have hc5 := hcv5 w5 (Below.refl _ _)
                have hc65 := HCV6.out w5 hb5
                have hwE := hw6.trans (hb5.mono hw6.size)
                clear hcv5 hq5 hown5
                go_wp2_with fail
                try simp only [Array.getInternal_eq_getElem, List.getElem_toArray, List.getElem_cons_succ, List.getElem_cons_zero, Act.put, List.setIfInBounds_toArray, List.set_cons_zero, List.set_cons_succ]
                refine wpAny_ready (rs := [13]) (by kernel_rfl) (by simp) ?_
                refine AllReady.cons rfl (fun K hK => ?_) ?_
                · go_simp
                  refine hK _ _ ?_
                  clear hK K
                  try simp only [Array.getInternal_eq_getElem, List.getElem_toArray, List.getElem_cons_succ, List.getElem_cons_zero, Act.put, List.setIfInBounds_toArray, List.set_cons_zero, List.set_cons_succ]
                  refine wpAny_take (i := 14) (v := ?_) rfl (by kernel_rfl) (by kernel_rfl) (by kernel_rfl) (fun _ _ _ h => h) (Or.inl ⟨by rfl, ?_⟩) ?_
                  rotate_left
                  · (intro w; go_simp; try with_reducible rfl)
                  try simp only [Array.getInternal_eq_getElem, List.getElem_toArray, List.getElem_cons_succ, List.getElem_cons_zero, Act.put, List.setIfInBounds_toArray, List.set_cons_zero, List.set_cons_succ]
                  refine wpAny_take (i := 15) (v := ?_) rfl (by kernel_rfl) (by kernel_rfl) (by kernel_rfl) (fun _ _ _ h => h) (Or.inl ⟨by rfl, ?_⟩) ?_
                  rotate_left
                  · (intro w; go_simp; try with_reducible rfl)
                  try simp only [Array.getInternal_eq_getElem, List.getElem_toArray, List.getElem_cons_succ, List.getElem_cons_zero, Act.put, List.setIfInBounds_toArray, List.set_cons_zero, List.set_cons_succ]
                  refine wpAny_take (i := 16) (v := ?_) rfl (by kernel_rfl) (by kernel_rfl) (by kernel_rfl) (fun _ _ _ h => h) (Or.inl ⟨by rfl, ?_⟩) ?_
                  rotate_left
                  · (intro w; go_simp; try with_reducible rfl)
                  try simp only [Array.getInternal_eq_getElem, List.getElem_toArray, List.getElem_cons_succ, List.getElem_cons_zero, Act.put, List.setIfInBounds_toArray, List.set_cons_zero, List.set_cons_succ]
                  refine wpAny_done (by kernel_rfl) ?_ _
                  go_wp2_with fail
                  go_ret
                  exact ⟨rfl, HB.out.trans (hwE.mono HB.out.size)⟩
                exact AllReady.nil
              exact AllReady.nil
            refine AllReady.cons rfl (fun K hK => ?_) ?_
            · go_simp
              refine (CD.out w6 (Same.of_below hw6 (Nat.le_refl _)) hw6.size).mono ?_
              rintro e w5 ⟨O5, q5, oc5, rfl, hq5, hown5, hcv5, hb5⟩
              have hc5 := hcv5 w5 (Below.refl _ _)
              have hc65 := HCV6.out w5 hb5
              have hwE := hw6.trans (hb5.mono hw6.size)
              clear hcv5 hq5 hown5
              go_wp2_with fail
              try simp only [Array.getInternal_eq_getElem, List.getElem_toArray, List.getElem_cons_succ, List.getElem_cons_zero, Act.put, List.setIfInBounds_toArray, List.set_cons_zero, List.set_cons_succ]
              refine wpAny_ready (rs := [8, 13]) (by kernel_rfl) (by simp) ?_
              refine AllReady.cons rfl (fun K hK => ?_) ?_
              · go_simp
                refine hK _ _ ?_
                clear hK K
                try simp only [Array.getInternal_eq_getElem, List.getElem_toArray, List.getElem_cons_succ, List.getElem_cons_zero, Act.put, List.setIfInBounds_toArray, List.set_cons_zero, List.set_cons_succ]
                refine wpAny_ready (rs := [13]) (by kernel_rfl) (by simp) ?_
                refine AllReady.cons rfl (fun K hK => ?_) ?_
                · go_simp
                  refine hK _ _ ?_
                  clear hK K
                  try simp only [Array.getInternal_eq_getElem, List.getElem_toArray, List.getElem_cons_succ, List.getElem_cons_zero, Act.put, List.setIfInBounds_toArray, List.set_cons_zero, List.set_cons_succ]
                  refine wpAny_take (i := 14) (v := ?_) rfl (by kernel_rfl) (by kernel_rfl) (by kernel_rfl) (fun _ _ _ h => h) (Or.inl ⟨by rfl, ?_⟩) ?_
                  rotate_left
                  · (intro w; go_simp; try with_reducible rfl)
                  try simp only [Array.getInternal_eq_getElem, List.getElem_toArray, List.getElem_cons_succ, List.getElem_cons_zero, Act.put, List.setIfInBounds_toArray, List.set_cons_zero, List.set_cons_succ]
                  refine wpAny_take (i := 15) (v := ?_) rfl (by kernel_rfl) (by kernel_rfl) (by kernel_rfl) (fun _ _ _ h => h) (Or.inl ⟨by rfl, ?_⟩) ?_
                  rotate_left
                  · (intro w; go_simp; try with_reducible rfl)
                  try simp only [Array.getInternal_eq_getElem, List.getElem_toArray, List.getElem_cons_succ, List.getElem_cons_zero, Act.put, List.setIfInBounds_toArray, List.set_cons_zero, List.set_cons_succ]
                  refine wpAny_take (i := 16) (v := ?_) rfl (by kernel_rfl) (by kernel_rfl) (by kernel_rfl) (fun _ _ _ h => h) (Or.inl ⟨by rfl, ?_⟩) ?_
                  rotate_left
                  · (intro w; go_simp; try with_reducible rfl)
                  try simp only [Array.getInternal_eq_getElem, List.getElem_toArray, List.getElem_cons_succ, List.getElem_cons_zero, Act.put, List.setIfInBounds_toArray, List.set_cons_zero, List.set_cons_succ]
                  refine wpAny_done (by kernel_rfl) ?_ _
                  go_wp2_with fail
                  go_ret
                  exact ⟨rfl, HB.out.trans (hwE.mono HB.out.size)⟩
                exact AllReady.nil
              refine AllReady.cons rfl (fun K hK => ?_) ?_
              · go_simp
                refine hK _ _ ?_
                clear hK K
                try simp only [Array.getInternal_eq_getElem, List.getElem_toArray, List.getElem_cons_succ, List.getElem_cons_zero, Act.put, List.setIfInBounds_toArray, List.set_cons_zero, List.set_cons_succ]
                refine wpAny_ready (rs := [8]) (by kernel_rfl) (by simp) ?_
                refine AllReady.cons rfl (fun K hK => ?_) ?_
                · go_simp
                  refine hK _ _ ?_
                  clear hK K
                  try simp only [Array.getInternal_eq_getElem, List.getElem_toArray, List.getElem_cons_succ, List.getElem_cons_zero, Act.put, List.setIfInBounds_toArray, List.set_cons_zero, List.set_cons_succ]
                  refine wpAny_take (i := 14) (v := ?_) rfl (by kernel_rfl) (by kernel_rfl) (by kernel_rfl) (fun _ _ _ h => h) (Or.inl ⟨by rfl, ?_⟩) ?_
                  rotate_left
                  · (intro w; go_simp; try with_reducible rfl)
                  try simp only [Array.getInternal_eq_getElem, List.getElem_toArray, List.getElem_cons_succ, List.getElem_cons_zero, Act.put, List.setIfInBounds_toArray, List.set_cons_zero, List.set_cons_succ]
                  refine wpAny_take (i := 15) (v := ?_) rfl (by kernel_rfl) (by kernel_rfl) (by kernel_rfl) (fun _ _ _ h => h) (Or.inl ⟨by rfl, ?_⟩) ?_
                  rotate_left
                  · (intro w; go_simp; try with_reducible rfl)
                  try simp only [Array.getInternal_eq_getElem, List.getElem_toArray, List.getElem_cons_succ, List.getElem_cons_zero, Act.put, List.setIfInBounds_toArray, List.set_cons_zero, List.set_cons_succ]
                  refine wpAny_take (i := 16) (v := ?_) rfl (by kernel_rfl) (by kernel_rfl) (by kernel_rfl) (fun _ _ _ h => h) (Or.inl ⟨by rfl, ?_⟩) ?_
                  rotate_left
                  · (intro w; go_simp; try with_reducible rfl)
                  try simp only [Array.getInternal_eq_getElem, List.getElem_toArray, List.getElem_cons_succ, List.getElem_cons_zero, Act.put, List.setIfInBounds_toArray, List.set_cons_zero, List.set_cons_succ]
                  refine wpAny_done (by kernel_rfl) ?_ _
                  go_wp2_with fail
                  go_ret
                  exact ⟨rfl, HB.out.trans (hwE.mono HB.out.size)⟩
                exact AllReady.nil
              exact AllReady.nil
            exact AllReady.nil
          exact AllReady.nil
  · go_enter Tryd.func3, Tryd.ntmps3
    go_wp2_with fail
    refine cH.mono ?_
    rintro e w1 ⟨rfl, hb1⟩
    have hA1 := hA.below hb1
    have cB := both_no k hA1.rd (Nat.le_refl _) hA1.size hA1.le hA1.max hA1.nil hA1.reach (by omega)
    clear cH hT hA hA1
    go_wp2_with fail
    refine cB.mono ?_
    rintro e w2 ⟨rfl, hb2⟩
    have HB := Lib.hid (hb1.trans (hb2.mono hb1.size))
    clear hb1 hb2 cB
    go_wp2_with fail
    go_ret
    exact ⟨rfl, HB.out⟩
end Go.Proofs.YtkiljhlbeffnfaaDoor
