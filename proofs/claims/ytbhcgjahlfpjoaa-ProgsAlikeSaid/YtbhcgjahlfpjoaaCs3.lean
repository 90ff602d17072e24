/- The reference's put: a rune into a rising list. -/
import Derived.Test.YtbhcgjahlfpjoaaRs1
import Derived.Test.YtbhcgjahlfpjoaaPc8
namespace Go.Proofs.Ytbhcgjahlfpjoaa
open Go.RowKit

/-- A rising list with one rune more. -/
def PutR (l : List Int) (x : Int) (r : List Int) : Prop := r.Pairwise (· < ·) ∧ (∀ v, v ∈ r ↔ v ∈ l ∨ (v = x ∧ x ≤ 1114111)) ∧ r.length ≤ l.length + 1
theorem putR_same {l : List Int} {x : Int} (hl : l.Pairwise (· < ·)) (h : x ∈ l ∨ 1114111 < x) : PutR l x l :=
  ⟨hl, fun v => ⟨.inl, fun hv => by
    rcases hv with hv | ⟨rfl, hv⟩
    · exact hv
    · rcases h with h | h
      · exact h
      · omega⟩, by omega⟩
theorem putR_new {l : List Int} {x : Int} {j : Nat} (hl : l.Pairwise (· < ·)) (hj : j ≤ l.length) (h1 : ∀ y, 0 < j → l[j - 1]? = some y → y < x) (h2 : ∀ y, l[j]? = some y → x < y) (hx : x ≤ 1114111) : PutR l x (l.take j ++ [x] ++ l.drop j) := by
  have hlo : ∀ y ∈ l.take j, y < x := by
    intro y hy
    obtain ⟨i, hi, rfl⟩ := List.getElem_of_mem hy
    rw [List.length_take] at hi
    rw [List.getElem_take]
    have h3 := h1 l[j - 1] (by omega) (List.getElem?_eq_getElem (by omega))
    rcases Nat.lt_or_ge i (j - 1) with h | h
    · have := List.pairwise_iff_getElem.1 hl i (j - 1) (by omega) (by omega) h; omega
    · obtain rfl : i = j - 1 := by omega
      exact h3
  have hhi : ∀ y ∈ l.drop j, x < y := by
    intro y hy
    obtain ⟨i, hi, rfl⟩ := List.getElem_of_mem hy
    rw [List.length_drop] at hi
    rw [List.getElem_drop]
    have h3 := h2 l[j] (List.getElem?_eq_getElem (by omega))
    rcases Nat.eq_zero_or_pos i with h | h
    · subst h; exact h3
    · have := List.pairwise_iff_getElem.1 hl j (j + i) (by omega) (by omega) (by omega); omega
  refine ⟨?_, fun v => ?_, by simp; omega⟩
  · rw [List.append_assoc, List.pairwise_append]
    refine ⟨hl.sublist (List.take_sublist _ _), ?_, fun a ha b hb => ?_⟩
    · rw [List.singleton_append, List.pairwise_cons]
      exact ⟨hhi, hl.sublist (List.drop_sublist _ _)⟩
    · rw [List.singleton_append, List.mem_cons] at hb
      rcases hb with rfl | hb
      · exact hlo _ ha
      · have := hlo _ ha; have := hhi _ hb; omega
  · rw [List.append_assoc, List.mem_append, List.singleton_append, List.mem_cons]
    constructor
    · rintro (h | rfl | h)
      · exact .inl (List.mem_of_mem_take h)
      · exact .inr ⟨rfl, hx⟩
      · exact .inl (List.mem_of_mem_drop h)
    · rintro (h | ⟨rfl, _⟩)
      · rw [← List.take_append_drop j l, List.mem_append] at h
        rcases h with h | h
        · exact .inl h
        · exact .inr (.inr h)
      · exact .inr (.inl rfl)

/-- Put answers. -/
def PutB (l : List Int) (x : Int) (w : World) (e : Ending) (w' : World) : Prop :=
  ∃ B m d r, e = .returned (.slice B m d) ∧ RnIn w' B m d r ∧ PutR l x r ∧ Below w.heap.size w w'
set_option maxHeartbeats 4000000 in
theorem put_any {w : World} {A : Option Addr} {n c : Nat} {l : List Int} (hA : RnIn w A n c l) (x : Int) (hl : l.Pairwise (· < ·)) (hn : n ≤ 10000000) :
    Calls Try.prog 79 #[.slice A n c, .int .i32 x] w (PutB l x w) := by
  have h1 := hA.max
  have h2 := hA.le
  have hlen := hA.len
  unfold maxLen at h1
  have hnc : (n : Int) ≤ (c : Int) := by omega
  have hcc : (c : Int) ≤ 9223372036854775807 := by omega
  have hni : (n : Int) ≤ 10000000 := by omega
  have HA := Lib.hid hA
  have HL := Lib.hid hl
  clear hA hl h1 h2 hlen
  go_enter Try.func79, Try.ntmps79
  go_wp2_with fail
  go_loopg [5] (n + 1) (fun q a wr => ∃ (j : Nat), q = j + 1 ∧ j ≤ n ∧ a = .int .i64 (j : Int) ∧ w = wr ∧ Hid (∀ y, l[j]? = some y → x ≤ y))
  case atStart => exact ⟨n, rfl, Nat.le_refl _, rfl, rfl, Lib.hid fun y hy => by rw [List.getElem?_eq_none (by have := HA.out.len; omega)] at hy; cases hy⟩
  case round =>
    obtain ⟨j, hgk, hj, rfl, rfl, HJ⟩ := hrel
    have HG := Lib.hid hgk
    clear hgk
    rcases Nat.eq_zero_or_pos j with h0 | h0
    · have d0 : decide ((0 : Int) < (j : Int)) = false := decide_eq_false (by omega)
      have d0i : ¬ (0 : Int) < (j : Int) := by omega
      have HS : Hid (∀ y, 0 < j → l[j - 1]? = some y → y < x) := Lib.hid fun y h => by omega
      clear h0
      go_upto_region 4 with fail
      by_cases hlt : j < n
      · have hi : (j : Int) < (n : Int) := by omega
        have hi2 : decide ((j : Int) < (n : Int)) = true := decide_eq_true hi
        obtain ⟨b1, o1, z, hAe, _, hz, hc1⟩ := HA.out.at hlt
        have c1 := hc1 w (Same.refl _ _ _)
        have hzx := HJ.out z hz
        have HZ := Lib.hid hz
        clear hc1
        by_cases hez : z = x
        · have d2 : (z == x) = true := beq_iff_eq.2 hez
          have HP : Hid (PutR l x l) := Lib.hid (putR_same HL.out (.inl (hez ▸ List.mem_of_getElem? HZ.out)))
          subst hAe
          clear hlt hez hzx hz
          go_wp2_with fail
          go_ret
          exact ⟨_, _, _, l, rfl, HA.out, HP.out, Below.refl _ _⟩

        · have d2 : (z == x) = false := beq_eq_false_iff_ne.2 hez
          by_cases hm : 1114111 < x
          · have d3 : decide (1114111 < x) = true := decide_eq_true hm
            have HP : Hid (PutR l x l) := Lib.hid (putR_same HL.out (.inr hm))
            subst hAe
            clear hlt hez hzx hz
            go_wp2_with fail
            go_ret
            exact ⟨_, _, _, l, rfl, HA.out, HP.out, Below.refl _ _⟩

          · have d3 : decide (1114111 < x) = false := decide_eq_false hm
            have HP : Hid (PutR l x (l.take j ++ [x] ++ l.drop j)) := Lib.hid (putR_new HL.out (by have := HA.out.len; omega) HS.out (fun y hy => by have h5 : z = y := Option.some.inj (hz.symm.trans hy); omega) (by omega))
            have hown := World.ownsRow_made (base := w.heap.size) (size := 1) (e := 21) w #[] 0 (Nat.le_refl _) (Nat.zero_le _) rfl
            have hR1 : Rd (w.alloc (.cells #[] 21)) 0 w.heap.size A (i32s (l.take j)) := by
              have := (HA.out.rd.take j).same ((Same.refl 0 w.heap.size w).alloc (Nat.le_refl _) (.cells #[] 21))
              simpa [i32s, List.map_take] using this
            have hn1 : A = none → j = 0 := fun h => by have := HA.out.nil h; omega
            have hl1 : (i32s (l.take j)).length = j * 1 := by rw [i32s_length, List.length_take, HA.out.len]; omega
            have hR3 := HA.out.rd.cut1 (n := n) (k := j) (c := c) (by rw [i32s_length, HA.out.len]) hj HA.out.le
            rw [show (i32s l).drop j = i32s (l.drop j) by simp [i32s, List.map_drop]] at hR3
            have hl3 : (i32s (l.drop j)).length = (n - j) * 1 := by rw [i32s_length, List.length_drop, HA.out.len]; omega
            have hn3 : (if c = j then A else Option.map (fun x => x.add j) A) = none → n - j = 0 := fun h => by
              split at h
              · have := HA.out.nil h; omega
              · rw [Option.map_eq_none_iff] at h; have := HA.out.nil h; omega
            have HR3 := Lib.hid hR3
            rw [if_neg (by have := HA.out.le; omega)] at hR3
            subst hAe
            rw [show Option.map (fun x => x.add j) (some (⟨b1, o1, none⟩ : Addr)) = some ⟨b1, o1 + j, none⟩ by simp only [Option.map_some, Addr.add]; split <;> simp_all] at hR3
            have HR3 := Lib.hid hR3
            clear hn3
            have hjc : (j : Int) ≤ (c : Int) := by omega
            clear hR3  hlt hez hzx hz
            go_wp2_with (first
              | (at_builtin; refine wpList_app _ rfl _ _ 52 rfl w.heap.size 21 elRn _ _ _ rfl hown 0 w.heap.size _ j _ (i32s (l.take j)) rfl hn1 hl1 hR1 (i32s_one _) (by unfold maxLen; omega) (by omega) (by simp) ?_; intro v1 W1 hv1 hg1 hb1 hn1x; simp only [Nat.zero_add, List.nil_append] at hv1; obtain ⟨B1, d1x, rfl, _, _⟩ := own_form hv1; have hW1 := ((Below.refl w.heap.size w).alloc (Nat.le_refl _) _).grown hg1 (by simp) (own_above hown); have hz1 := hW1.size; have HW1 := Lib.hid hW1; clear hW1 hg1 hb1 hn1x hown)
              | (at_builtin; refine wpList_app _ rfl _ _ 52 rfl w.heap.size 21 elRn _ _ _ rfl (hv1.alloc _) 0 (W1.heap.size + 1) _ 1 1 [.int .i32 x] rfl (fun h => by cases h) rfl (Rd.new W1 _ _ _ (Nat.zero_le _) (by omega)) (by simp [Value.oneCell']) (by unfold maxLen; omega) (by omega) (by simp; omega) ?_; intro v2 W2 hv2 hg2 hb2 hn2; obtain ⟨B2, d2x, rfl, _, _⟩ := own_form hv2; have hW2 := (HW1.out.alloc HW1.out.size _).grown hg2 (by simp; omega) (own_above hv1); have hz2 := hW2.size; have HW2 := Lib.hid hW2; have hR4 := HR3.out.same (.of_below hW2 (Nat.le_refl _)); clear hW2 hg2 hb2 hn2)
              | (at_builtin; refine wpList_app _ rfl _ _ 52 rfl w.heap.size 21 elRn _ _ _ rfl hv2 0 w.heap.size _ (n - j) _ (i32s (l.drop j)) rfl (by intro h; cases h) hl3 hR4 (i32s_one _) (by unfold maxLen; omega) (by omega) (by omega) ?_; intro v3 W3 hv3 hg3 hb3 hn3x; obtain ⟨B3, d3x, rfl, _, _⟩ := own_form hv3; have hW3 := HW2.out.grown hg3 (by omega) (own_above hv2); have HW3 := Lib.hid hW3; clear hW3 hg3 hb3 hn3x))
            go_wp2_with fail
            all_goals go_ret
            all_goals refine ⟨B3, _, d3x, l.take j ++ [x] ++ l.drop j, rfl, RnIn.of_own (by rw [i32s_append, i32s_append]; exact hv3) (by simp; have := HA.out.len; omega), HP.out, HW3.out⟩
      · have hi : ¬ (j : Int) < (n : Int) := by omega
        have hi2 : decide ((j : Int) < (n : Int)) = false := decide_eq_false hi
        by_cases hm : 1114111 < x
        · have d3 : decide (1114111 < x) = true := decide_eq_true hm
          have HP : Hid (PutR l x l) := Lib.hid (putR_same HL.out (.inr hm))
          clear hlt
          go_wp2_with fail
          go_ret
          exact ⟨_, _, _, l, rfl, HA.out, HP.out, Below.refl _ _⟩

        · have d3 : decide (1114111 < x) = false := decide_eq_false hm
          have HP : Hid (PutR l x (l.take j ++ [x] ++ l.drop j)) := Lib.hid (putR_new HL.out (by have := HA.out.len; omega) HS.out (fun y hy => by rw [List.getElem?_eq_none (by have := HA.out.len; omega)] at hy; cases hy) (by omega))
          have hown := World.ownsRow_made (base := w.heap.size) (size := 1) (e := 21) w #[] 0 (Nat.le_refl _) (Nat.zero_le _) rfl
          have hR1 : Rd (w.alloc (.cells #[] 21)) 0 w.heap.size A (i32s (l.take j)) := by
            have := (HA.out.rd.take j).same ((Same.refl 0 w.heap.size w).alloc (Nat.le_refl _) (.cells #[] 21))
            simpa [i32s, List.map_take] using this
          have hn1 : A = none → j = 0 := fun h => by have := HA.out.nil h; omega
          have hl1 : (i32s (l.take j)).length = j * 1 := by rw [i32s_length, List.length_take, HA.out.len]; omega
          have hR3 := HA.out.rd.cut1 (n := n) (k := j) (c := c) (by rw [i32s_length, HA.out.len]) hj HA.out.le
          rw [show (i32s l).drop j = i32s (l.drop j) by simp [i32s, List.map_drop]] at hR3
          have hl3 : (i32s (l.drop j)).length = (n - j) * 1 := by rw [i32s_length, List.length_drop, HA.out.len]; omega
          have hn3 : (if c = j then A else Option.map (fun x => x.add j) A) = none → n - j = 0 := fun h => by
            split at h
            · have := HA.out.nil h; omega
            · rw [Option.map_eq_none_iff] at h; have := HA.out.nil h; omega
          have HR3 := Lib.hid hR3

          have hjc : (j : Int) ≤ (c : Int) := by omega
          clear hR3 hlt
          go_wp2_with (first
            | (at_builtin; refine wpList_app _ rfl _ _ 52 rfl w.heap.size 21 elRn _ _ _ rfl hown 0 w.heap.size _ j _ (i32s (l.take j)) rfl hn1 hl1 hR1 (i32s_one _) (by unfold maxLen; omega) (by omega) (by simp) ?_; intro v1 W1 hv1 hg1 hb1 hn1x; simp only [Nat.zero_add, List.nil_append] at hv1; obtain ⟨B1, d1x, rfl, _, _⟩ := own_form hv1; have hW1 := ((Below.refl w.heap.size w).alloc (Nat.le_refl _) _).grown hg1 (by simp) (own_above hown); have hz1 := hW1.size; have HW1 := Lib.hid hW1; clear hW1 hg1 hb1 hn1x hown)
            | (at_builtin; refine wpList_app _ rfl _ _ 52 rfl w.heap.size 21 elRn _ _ _ rfl (hv1.alloc _) 0 (W1.heap.size + 1) _ 1 1 [.int .i32 x] rfl (fun h => by cases h) rfl (Rd.new W1 _ _ _ (Nat.zero_le _) (by omega)) (by simp [Value.oneCell']) (by unfold maxLen; omega) (by omega) (by simp; omega) ?_; intro v2 W2 hv2 hg2 hb2 hn2; obtain ⟨B2, d2x, rfl, _, _⟩ := own_form hv2; have hW2 := (HW1.out.alloc HW1.out.size _).grown hg2 (by simp; omega) (own_above hv1); have hz2 := hW2.size; have HW2 := Lib.hid hW2; have hR4 := HR3.out.same (.of_below hW2 (Nat.le_refl _)); clear hW2 hg2 hb2 hn2)
            | (at_builtin; refine wpList_app _ rfl _ _ 52 rfl w.heap.size 21 elRn _ _ _ rfl hv2 0 w.heap.size _ (n - j) _ (i32s (l.drop j)) rfl hn3 hl3 hR4 (i32s_one _) (by unfold maxLen; omega) (by omega) (by omega) ?_; intro v3 W3 hv3 hg3 hb3 hn3x; obtain ⟨B3, d3x, rfl, _, _⟩ := own_form hv3; have hW3 := HW2.out.grown hg3 (by omega) (own_above hv2); have HW3 := Lib.hid hW3; clear hW3 hg3 hb3 hn3x))
          go_wp2_with fail
          all_goals go_ret
          all_goals refine ⟨B3, _, d3x, l.take j ++ [x] ++ l.drop j, rfl, RnIn.of_own (by rw [i32s_append, i32s_append]; exact hv3) (by simp; have := HA.out.len; omega), HP.out, HW3.out⟩

    · have d0 : decide ((0 : Int) < (j : Int)) = true := decide_eq_true (by omega)
      have d0i : (0 : Int) < (j : Int) := by omega
      obtain ⟨b2, o2, y, hAe2, _, hy, hc2⟩ := HA.out.at (k := j - 1) (by omega)
      have c2 := hc2 w (Same.refl _ _ _)
      have hwr : IntKind.i64.wrap ((j : Int) - 1) = (j : Int) - 1 := IntWalk.i64_in _ (by omega)
      have hw0 : (0 : Int) ≤ (j : Int) - 1 := by omega
      have hw1 : (j : Int) - 1 < (n : Int) := by omega
      have HY := Lib.hid hy
      have HJJ := Lib.hid hj
      by_cases hyx : x ≤ y
      · have d1 : decide (x ≤ y) = true := decide_eq_true hyx
        have HN : Hid (∀ y, l[j - 1]? = some y → x ≤ y) := Lib.hid fun v hv => by have h5 : y = v := Option.some.inj (HY.out.symm.trans hv); omega
        have HH := Lib.hid h0
        subst hAe2
        clear hc2 hy h0 hj
        go_wp2_with fail
        go_roundg j
        case measure => have := HG.out; omega
        case rel => exact ⟨j - 1, by have := HH.out; omega, by have := HJJ.out; omega, by have := HH.out; (first | rfl | (congr 1; omega)), rfl, HN⟩
      · have d1 : decide (x ≤ y) = false := decide_eq_false hyx
        have HS : Hid (∀ y, 0 < j → l[j - 1]? = some y → y < x) := Lib.hid fun v _ hv => by have h5 : y = v := Option.some.inj (HY.out.symm.trans hv); omega
        obtain ⟨A0, hA0⟩ : ∃ A0, A0 = A := ⟨A, rfl⟩
        subst hAe2
        clear hc2 hy
        go_upto_region 4 with fail
        clear c2
        rw [← hA0]
        rw [← hA0] at HA
        clear hA0
        generalize A0 = A at HA ⊢
        by_cases hlt : j < n
        · have hi : (j : Int) < (n : Int) := by omega
          have hi2 : decide ((j : Int) < (n : Int)) = true := decide_eq_true hi
          obtain ⟨b1, o1, z, hAe, _, hz, hc1⟩ := HA.out.at hlt
          have c1 := hc1 w (Same.refl _ _ _)
          have hzx := HJ.out z hz
          have HZ := Lib.hid hz
          clear hc1
          by_cases hez : z = x
          · have d2 : (z == x) = true := beq_iff_eq.2 hez
            have HP : Hid (PutR l x l) := Lib.hid (putR_same HL.out (.inl (hez ▸ List.mem_of_getElem? HZ.out)))
            subst hAe
            clear hlt hez hzx hz
            go_wp2_with fail
            go_ret
            exact ⟨_, _, _, l, rfl, HA.out, HP.out, Below.refl _ _⟩

          · have d2 : (z == x) = false := beq_eq_false_iff_ne.2 hez
            by_cases hm : 1114111 < x
            · have d3 : decide (1114111 < x) = true := decide_eq_true hm
              have HP : Hid (PutR l x l) := Lib.hid (putR_same HL.out (.inr hm))
              subst hAe
              clear hlt hez hzx hz
              go_wp2_with fail
              go_ret
              exact ⟨_, _, _, l, rfl, HA.out, HP.out, Below.refl _ _⟩

            · have d3 : decide (1114111 < x) = false := decide_eq_false hm
              have HP : Hid (PutR l x (l.take j ++ [x] ++ l.drop j)) := Lib.hid (putR_new HL.out (by have := HA.out.len; omega) HS.out (fun y hy => by have h5 : z = y := Option.some.inj (hz.symm.trans hy); omega) (by omega))
              have hown := World.ownsRow_made (base := w.heap.size) (size := 1) (e := 21) w #[] 0 (Nat.le_refl _) (Nat.zero_le _) rfl
              have hR1 : Rd (w.alloc (.cells #[] 21)) 0 w.heap.size A (i32s (l.take j)) := by
                have := (HA.out.rd.take j).same ((Same.refl 0 w.heap.size w).alloc (Nat.le_refl _) (.cells #[] 21))
                simpa [i32s, List.map_take] using this
              have hn1 : A = none → j = 0 := fun h => by have := HA.out.nil h; omega
              have hl1 : (i32s (l.take j)).length = j * 1 := by rw [i32s_length, List.length_take, HA.out.len]; omega
              have hR3 := HA.out.rd.cut1 (n := n) (k := j) (c := c) (by rw [i32s_length, HA.out.len]) hj HA.out.le
              rw [show (i32s l).drop j = i32s (l.drop j) by simp [i32s, List.map_drop]] at hR3
              have hl3 : (i32s (l.drop j)).length = (n - j) * 1 := by rw [i32s_length, List.length_drop, HA.out.len]; omega
              have hn3 : (if c = j then A else Option.map (fun x => x.add j) A) = none → n - j = 0 := fun h => by
                split at h
                · have := HA.out.nil h; omega
                · rw [Option.map_eq_none_iff] at h; have := HA.out.nil h; omega
              have HR3 := Lib.hid hR3
              rw [if_neg (by have := HA.out.le; omega)] at hR3
              subst hAe
              rw [show Option.map (fun x => x.add j) (some (⟨b1, o1, none⟩ : Addr)) = some ⟨b1, o1 + j, none⟩ by simp only [Option.map_some, Addr.add]; split <;> simp_all] at hR3
              have HR3 := Lib.hid hR3
              clear hn3
              have hjc : (j : Int) ≤ (c : Int) := by omega
              clear hR3  hlt hez hzx hz
              go_wp2_with (first
                | (at_builtin; refine wpList_app _ rfl _ _ 52 rfl w.heap.size 21 elRn _ _ _ rfl hown 0 w.heap.size _ j _ (i32s (l.take j)) rfl hn1 hl1 hR1 (i32s_one _) (by unfold maxLen; omega) (by omega) (by simp) ?_; intro v1 W1 hv1 hg1 hb1 hn1x; simp only [Nat.zero_add, List.nil_append] at hv1; obtain ⟨B1, d1x, rfl, _, _⟩ := own_form hv1; have hW1 := ((Below.refl w.heap.size w).alloc (Nat.le_refl _) _).grown hg1 (by simp) (own_above hown); have hz1 := hW1.size; have HW1 := Lib.hid hW1; clear hW1 hg1 hb1 hn1x hown)
                | (at_builtin; refine wpList_app _ rfl _ _ 52 rfl w.heap.size 21 elRn _ _ _ rfl (hv1.alloc _) 0 (W1.heap.size + 1) _ 1 1 [.int .i32 x] rfl (fun h => by cases h) rfl (Rd.new W1 _ _ _ (Nat.zero_le _) (by omega)) (by simp [Value.oneCell']) (by unfold maxLen; omega) (by omega) (by simp; omega) ?_; intro v2 W2 hv2 hg2 hb2 hn2; obtain ⟨B2, d2x, rfl, _, _⟩ := own_form hv2; have hW2 := (HW1.out.alloc HW1.out.size _).grown hg2 (by simp; omega) (own_above hv1); have hz2 := hW2.size; have HW2 := Lib.hid hW2; have hR4 := HR3.out.same (.of_below hW2 (Nat.le_refl _)); clear hW2 hg2 hb2 hn2)
                | (at_builtin; refine wpList_app _ rfl _ _ 52 rfl w.heap.size 21 elRn _ _ _ rfl hv2 0 w.heap.size _ (n - j) _ (i32s (l.drop j)) rfl (by intro h; cases h) hl3 hR4 (i32s_one _) (by unfold maxLen; omega) (by omega) (by omega) ?_; intro v3 W3 hv3 hg3 hb3 hn3x; obtain ⟨B3, d3x, rfl, _, _⟩ := own_form hv3; have hW3 := HW2.out.grown hg3 (by omega) (own_above hv2); have HW3 := Lib.hid hW3; clear hW3 hg3 hb3 hn3x))
              go_wp2_with fail
              all_goals go_ret
              all_goals refine ⟨B3, _, d3x, l.take j ++ [x] ++ l.drop j, rfl, RnIn.of_own (by rw [i32s_append, i32s_append]; exact hv3) (by simp; have := HA.out.len; omega), HP.out, HW3.out⟩
        · have hi : ¬ (j : Int) < (n : Int) := by omega
          have hi2 : decide ((j : Int) < (n : Int)) = false := decide_eq_false hi
          by_cases hm : 1114111 < x
          · have d3 : decide (1114111 < x) = true := decide_eq_true hm
            have HP : Hid (PutR l x l) := Lib.hid (putR_same HL.out (.inr hm))
            clear hlt
            go_wp2_with fail
            go_ret
            exact ⟨_, _, _, l, rfl, HA.out, HP.out, Below.refl _ _⟩

          · have d3 : decide (1114111 < x) = false := decide_eq_false hm
            have HP : Hid (PutR l x (l.take j ++ [x] ++ l.drop j)) := Lib.hid (putR_new HL.out (by have := HA.out.len; omega) HS.out (fun y hy => by rw [List.getElem?_eq_none (by have := HA.out.len; omega)] at hy; cases hy) (by omega))
            have hown := World.ownsRow_made (base := w.heap.size) (size := 1) (e := 21) w #[] 0 (Nat.le_refl _) (Nat.zero_le _) rfl
            have hR1 : Rd (w.alloc (.cells #[] 21)) 0 w.heap.size A (i32s (l.take j)) := by
              have := (HA.out.rd.take j).same ((Same.refl 0 w.heap.size w).alloc (Nat.le_refl _) (.cells #[] 21))
              simpa [i32s, List.map_take] using this
            have hn1 : A = none → j = 0 := fun h => by have := HA.out.nil h; omega
            have hl1 : (i32s (l.take j)).length = j * 1 := by rw [i32s_length, List.length_take, HA.out.len]; omega
            have hR3 := HA.out.rd.cut1 (n := n) (k := j) (c := c) (by rw [i32s_length, HA.out.len]) hj HA.out.le
            rw [show (i32s l).drop j = i32s (l.drop j) by simp [i32s, List.map_drop]] at hR3
            have hl3 : (i32s (l.drop j)).length = (n - j) * 1 := by rw [i32s_length, List.length_drop, HA.out.len]; omega
            have hn3 : (if c = j then A else Option.map (fun x => x.add j) A) = none → n - j = 0 := fun h => by
              split at h
              · have := HA.out.nil h; omega
              · rw [Option.map_eq_none_iff] at h; have := HA.out.nil h; omega
            have HR3 := Lib.hid hR3

            have hjc : (j : Int) ≤ (c : Int) := by omega
            clear hR3 hlt
            go_wp2_with (first
              | (at_builtin; refine wpList_app _ rfl _ _ 52 rfl w.heap.size 21 elRn _ _ _ rfl hown 0 w.heap.size _ j _ (i32s (l.take j)) rfl hn1 hl1 hR1 (i32s_one _) (by unfold maxLen; omega) (by omega) (by simp) ?_; intro v1 W1 hv1 hg1 hb1 hn1x; simp only [Nat.zero_add, List.nil_append] at hv1; obtain ⟨B1, d1x, rfl, _, _⟩ := own_form hv1; have hW1 := ((Below.refl w.heap.size w).alloc (Nat.le_refl _) _).grown hg1 (by simp) (own_above hown); have hz1 := hW1.size; have HW1 := Lib.hid hW1; clear hW1 hg1 hb1 hn1x hown)
              | (at_builtin; refine wpList_app _ rfl _ _ 52 rfl w.heap.size 21 elRn _ _ _ rfl (hv1.alloc _) 0 (W1.heap.size + 1) _ 1 1 [.int .i32 x] rfl (fun h => by cases h) rfl (Rd.new W1 _ _ _ (Nat.zero_le _) (by omega)) (by simp [Value.oneCell']) (by unfold maxLen; omega) (by omega) (by simp; omega) ?_; intro v2 W2 hv2 hg2 hb2 hn2; obtain ⟨B2, d2x, rfl, _, _⟩ := own_form hv2; have hW2 := (HW1.out.alloc HW1.out.size _).grown hg2 (by simp; omega) (own_above hv1); have hz2 := hW2.size; have HW2 := Lib.hid hW2; have hR4 := HR3.out.same (.of_below hW2 (Nat.le_refl _)); clear hW2 hg2 hb2 hn2)
              | (at_builtin; refine wpList_app _ rfl _ _ 52 rfl w.heap.size 21 elRn _ _ _ rfl hv2 0 w.heap.size _ (n - j) _ (i32s (l.drop j)) rfl hn3 hl3 hR4 (i32s_one _) (by unfold maxLen; omega) (by omega) (by omega) ?_; intro v3 W3 hv3 hg3 hb3 hn3x; obtain ⟨B3, d3x, rfl, _, _⟩ := own_form hv3; have hW3 := HW2.out.grown hg3 (by omega) (own_above hv2); have HW3 := Lib.hid hW3; clear hW3 hg3 hb3 hn3x))
            go_wp2_with fail
            all_goals go_ret
            all_goals refine ⟨B3, _, d3x, l.take j ++ [x] ++ l.drop j, rfl, RnIn.of_own (by rw [i32s_append, i32s_append]; exact hv3) (by simp; have := HA.out.len; omega), HP.out, HW3.out⟩
end Go.Proofs.Ytbhcgjahlfpjoaa
