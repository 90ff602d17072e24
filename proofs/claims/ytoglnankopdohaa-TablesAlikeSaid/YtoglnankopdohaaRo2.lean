/- The reference's Orbit; TablesOrbits: the walk. -/
import Derived.Test.YtoglnankopdohaaRo1
namespace Go.Proofs.Ytoglnankopdohaa
open Go.RowKit

theorem _root_.Go.RowKit.Below.onto {w w1 w2 : World} (h : Below w.heap.size w w1) (h' : Below w1.heap.size w1 w2) : Below w.heap.size w w2 := h.trans (h'.mono h.size)
def grL : List Rg := [(65, 90), (192, 214), (216, 222), (913, 929), (932, 937), (1040, 1071)]
theorem grL_ok : Canon grL := canonB (by decide) (by decide)
theorem hasB_gr (c : Int) (h1 : c ≠ 75) (h2 : c ≠ 83) (h3 : c ≠ 197) (h4 : c ≠ 924) : hasB grL c = decide (GrP c) := by
  rw [Bool.eq_iff_iff, hasB_iff, decide_eq_true_iff]
  simp only [grL, mem_cons, mem_nil, or_false, GrP, maxR]
  omega
set_option maxRecDepth 20000 in
set_option maxHeartbeats 2000000 in
theorem refGreat_any (c : Int) (w : World) : Calls Try.prog 65 #[.int .i32 c] w fun e w' => e = .returned (.bool (decide (GrP c))) ∧ Below w.heap.size w w' := by
  by_cases h1 : c = 75
  · subst h1
    rw [show decide (GrP 75) = false by decide]
    go_enter Try.func65, Try.ntmps65
    go_wp2_with fail
    go_ret
    exact ⟨rfl, Below.refl _ _⟩
  by_cases h2 : c = 83
  · subst h2
    rw [show decide (GrP 83) = false by decide]
    go_enter Try.func65, Try.ntmps65
    go_wp2_with fail
    go_ret
    exact ⟨rfl, Below.refl _ _⟩
  by_cases h3 : c = 197
  · subst h3
    rw [show decide (GrP 197) = false by decide]
    go_enter Try.func65, Try.ntmps65
    go_wp2_with fail
    go_ret
    exact ⟨rfl, Below.refl _ _⟩
  by_cases h4 : c = 924
  · subst h4
    rw [show decide (GrP 924) = false by decide]
    go_enter Try.func65, Try.ntmps65
    go_wp2_with fail
    go_ret
    exact ⟨rfl, Below.refl _ _⟩
  have hn := RgIn.newT w 49 grL (by decide) (canon_fits grL_ok)
  have hb : Below w.heap.size w (w.alloc (.cells (rgCells grL).toArray 49)) := (Below.refl _ _).alloc (Nat.le_refl _) _
  have hx := set3_any hn (by decide)
  have hx2 := hx.mono (R' := fun e w' => ∃ B d, e = .returned (.slice B grL.length d) ∧ Hid (Told false grL w B grL.length d grL w')) (fun e w' ⟨B, d, he, ho, hb'⟩ => ⟨B, d, he, Lib.hid (told_set grL_ok rfl hb ho hb')⟩)
  have hG := hasB_gr c h1 h2 h3 h4
  have q1 : (c == 75) = false := beq_eq_false_iff_ne.2 h1
  have q2 : (c == 83) = false := beq_eq_false_iff_ne.2 h2
  have q3 : (c == 197) = false := beq_eq_false_iff_ne.2 h3
  have q4 : (c == 924) = false := beq_eq_false_iff_ne.2 h4
  have HG := Lib.hid hG
  clear hn hb hx hG h1 h2 h3 h4
  have hx3 : Calls Try.prog 58 #[.slice (some ⟨w.heap.size, 0, none⟩) 6 6] (w.alloc (.cells #[.int .i32 65, .int .i32 90, .int .i32 192, .int .i32 214, .int .i32 216, .int .i32 222, .int .i32 913, .int .i32 929, .int .i32 932, .int .i32 937, .int .i32 1040, .int .i32 1071] 49)) fun e w' => ∃ B d, e = .returned (.slice B 6 d) ∧ Hid (Told false grL w B 6 d grL w') := hx2
  clear hx2
  generalize decide (GrP c) = b at HG ⊢
  go_enter Try.func65, Try.ntmps65
  go_wp2_with fail
  refine hx3.mono ?_
  rintro e w2 ⟨B', d', rfl, HT⟩
  have hh := refHas_any HT.out.rg c
  rw [HG.out] at hh
  have HB := Lib.hid HT.out.below
  clear hx3 HT
  go_wp2_with fail
  refine hh.mono ?_
  rintro e w3 ⟨rfl, hw⟩
  rw [← hw]
  clear hh hw w3
  go_wp2_with fail
  go_ret
  exact ⟨rfl, HB.out⟩

theorem g3_unique : ∀ g ∈ G3, ∀ g' ∈ G3, ∀ c ∈ g, c ∈ g' → g = g' := by decide
theorem orbR_grp {c : Int} {g : List Int} (hg : g ∈ G3) (hc : c ∈ g) : orbR c = g := by
  rcases orb_cases c with ⟨g', hg', hc', he⟩ | ⟨hn, _⟩
  · rw [he]; exact g3_unique g' hg' g hg c hc' hc
  · exact absurd hc (hn g hg)
theorem g3_rising : ∀ g ∈ G3, g.Pairwise (· < ·) := by decide
/-- What an orbit is where no group holds the rune. -/
theorem orb_no {c : Int} (h : ∀ g ∈ G3, c ∉ g) : (GrP c ∧ orbR c = [c, c + 32]) ∨ (¬ GrP c ∧ 32 ≤ c ∧ GrP (c - 32) ∧ orbR c = [c - 32, c]) ∨ (¬ GrP c ∧ ¬ (32 ≤ c ∧ GrP (c - 32)) ∧ orbR c = [c]) := by
  rcases orb_cases c with ⟨g, hg, hc, _⟩ | ⟨_, h3⟩
  · exact absurd hc (h g hg)
  · exact h3
theorem RnIn.lit (w : World) (l : List Int) (h1 : l.length ≤ 1000) : RnIn (w.alloc (.cells (i32s l).toArray 21)) (some ⟨w.heap.size, 0, none⟩) l.length l.length l :=
  RnIn.of_own (base := w.heap.size) (World.ownsRow_lit (base := w.heap.size) (size := 1) (e := 21) w (i32s l).toArray l.length (Nat.le_refl _) (by unfold maxLen; omega) (by simp [i32s])) rfl
theorem RnIn.lit' (w : World) (l : List Int) (h1 : l.length ≤ 1000) {l' : List Int} (h : l' = l) : RnIn (w.alloc (.cells (i32s l).toArray 21)) (some ⟨w.heap.size, 0, none⟩) l.length l.length l' := by rw [h]; exact RnIn.lit w l h1
theorem GrpIn.below {w w' : World} {b : Nat} (h : GrpIn w b) (hb : Below w.heap.size w w') : GrpIn w' b :=
  ⟨fun i g hg => by
    obtain ⟨a, h1, h2⟩ := h.at_ i g hg
    exact ⟨a, (hb.cell (p := ⟨b, i, none⟩) h.lt).trans h1, h2.below hb⟩, Nat.lt_of_lt_of_le h.lt hb.size⟩

set_option maxRecDepth 20000 in
set_option maxHeartbeats 4000000 in
theorem refOrbit_any (c : Int) (w : World) (hc1 : -2147483648 ≤ c) (hc2 : c ≤ 2147483647) : Calls Try.prog 29 #[.int .i32 c] w fun e w' => ∃ B m d, e = .returned (.slice B m d) ∧ RnIn w' B m d (orbL c) ∧ Below w.heap.size w w' := by
  by_cases h0 : 0 ≤ c
  · by_cases h1 : c ≤ 1114111
    · rw [orbL_in h0 h1]
      have k0 : ¬ c < 0 := by omega
      have k1 : ¬ 1114111 < c := by omega
      have hg := refGroups_any w
      clear h0 hc1
      go_enter Try.func29, Try.ntmps29
      go_wp2_with fail
      refine hg.mono ?_
      rintro e w1 ⟨rfl, hG, hb⟩
      have HGI := Lib.hid hG
      have HB := Lib.hid hb
      clear hg hG hb
      generalize w.heap.size + 7 = b at HGI ⊢
      go_wp2_with fail
      go_loopg [4] 8 (fun q i wr => ∃ (j : Nat), q = 8 - j ∧ j ≤ 7 ∧ i = .int .i64 (j : Int) ∧ Hid (Below w1.heap.size w1 wr) ∧ Hid (∀ k, k < j → ∀ g, G3[k]? = some g → c ∉ g))
      case atStart => exact ⟨0, rfl, by omega, rfl, Lib.hid (Below.refl _ _), Lib.hid (by intro k hk; omega)⟩
      case round =>
        obtain ⟨j, hgk, hj, rfl, HW, HN⟩ := hrel
        obtain ⟨wo, hwo⟩ : ∃ wo, wo = wr := ⟨_, rfl⟩
        subst hwo
        have HG := Lib.hid hgk
        clear hgk
        by_cases hlt : j < 7
        · have hi : (j : Int) < 7 := by omega
          obtain ⟨g, hgg⟩ : ∃ g, G3[j]? = some g := ⟨_, List.getElem?_eq_getElem (by simpa [G3] using hlt)⟩
          obtain ⟨a, ha, hR⟩ := (HGI.out.below HW.out).at_ j g hgg
          have hgl := grp_len (List.mem_of_getElem? hgg)
          have HGG := Lib.hid hgg
          have HR := Lib.hid hR
          have HLT := Lib.hid hlt
          have hgl3 : (g.length : Int) ≤ 3 := by omega
          clear hgg hR hlt
          go_wp2_with fail
          go_loopg [5] (g.length + 1) (fun q i wr => ∃ (k : Nat), q = g.length + 1 - k ∧ k ≤ g.length ∧ i = .int .i64 (k : Int) ∧ Hid (Below wo.heap.size wo wr) ∧ Hid (∀ t, t < k → g[t]? ≠ some c))
          case atStart => exact ⟨0, rfl, by omega, rfl, Lib.hid (Below.refl _ _), Lib.hid (by intro k hk; omega)⟩
          case round =>
            obtain ⟨k, hgk2, hk, rfl, HW2, HN2⟩ := hrel
            have HG2 := Lib.hid hgk2
            have hbl : b < wo.heap.size := (HGI.out.below HW.out).lt
            have ha2 : wr.cell? ⟨b, j, none⟩ = some (.slice (some ⟨a, 0, none⟩) g.length g.length) := (HW2.out.cell (p := ⟨b, j, none⟩) hbl).trans ha
            clear hgk2
            by_cases hlt2 : k < g.length
            · have hi2 : (k : Int) < (g.length : Int) := by omega
              obtain ⟨b2, o2, x, hAe, _, hx, hcx⟩ := (HR.out.below HW2.out).at hlt2
              injection hAe with hAe
              injection hAe with e1 e2
              subst e1; subst e2
              have c1 := hcx wr (Same.refl _ _ _)
              rw [Nat.zero_add] at c1
              have HX := Lib.hid hx
              have HLT2 := Lib.hid hlt2
              clear hx hcx hlt2
              by_cases hxc : x = c
              · have hxb : (x == c) = true := beq_iff_eq.2 hxc
                have hs := fun W (h : RnIn W (some ⟨a, 0, none⟩) g.length g.length g) => refSorted_any h (g3_rising g (List.mem_of_getElem? HGG.out)) (by omega)
                have hfin : orbR c = g := orbR_grp (List.mem_of_getElem? HGG.out) (by rw [← hxc]; exact List.mem_of_getElem? HX.out)
                have HF := Lib.hid hfin
                clear hxc hfin
                go_wp2_with fail
                refine (hs _ (HR.out.below HW2.out)).mono ?_
                rintro e w5 ⟨B, d, rfl, hown, hb5⟩
                have hfin2 : RnIn w5 B g.length d (orbR c) := by rw [HF.out]; exact RnIn.of_own hown rfl
                have HFIN := Lib.hid hfin2
                have HB5 := Lib.hid (HB.out.onto (HW.out.onto (HW2.out.onto hb5)))
                clear hs hown hb5 hfin2
                go_wp2_with fail
                go_ret
                exact ⟨_, _, _, rfl, HFIN.out, HB5.out⟩
              · have hxb : (x == c) = false := beq_eq_false_iff_ne.2 hxc
                have HNN : Hid (∀ t, t < k + 1 → g[t]? ≠ some c) := Lib.hid fun t ht hr => by
                  rcases Nat.lt_succ_iff_lt_or_eq.1 ht with h | h
                  · exact HN2.out t h hr
                  · subst h; rw [HX.out] at hr; injection hr with hr; exact hxc hr
                clear hxc HN2
                go_wp2_with fail
                go_roundg (g.length + 1 - (k + 1))
                case measure => have := HG2.out; have := HLT2.out; omega
                case rel => exact ⟨k + 1, rfl, by have := HLT2.out; omega, by go_num, HW2, HNN⟩
            · have hi2 : ¬ (k : Int) < (g.length : Int) := by omega
              have hng : c ∉ g := fun hm => by
                obtain ⟨t, ht, he⟩ := List.getElem_of_mem hm
                exact HN2.out t (by omega) (by rw [← he]; exact List.getElem?_eq_getElem ht)
              have HNN : Hid (∀ t, t < j + 1 → ∀ g', G3[t]? = some g' → c ∉ g') := Lib.hid fun t ht g' hg' => by
                rcases Nat.lt_succ_iff_lt_or_eq.1 ht with h | h
                · exact HN.out t h g' hg'
                · subst h; rw [HGG.out] at hg'; injection hg' with hg'; rw [← hg']; exact hng
              have HW3 := Lib.hid (HW.out.onto HW2.out)
              clear hng HN2 HN hlt2
              go_wp2_with fail
              go_roundg (8 - (j + 1))
              case measure => have := HG.out; have := HLT.out; omega
              case rel => exact ⟨j + 1, rfl, by have := HLT.out; omega, by go_num, HW3, HNN⟩
        · have hj7 : j = 7 := by omega
          subst hj7
          have hi : ¬ ((7 : Nat) : Int) < 7 := by omega
          have hno : ∀ g ∈ G3, c ∉ g := fun g hm => by
            obtain ⟨t, ht, he⟩ := List.getElem_of_mem hm
            exact HN.out t (by simpa [G3] using ht) g (by rw [← he]; exact List.getElem?_eq_getElem ht)
          have hcs := orb_no hno
          have HB2 := Lib.hid (HB.out.onto HW.out)
          clear hno HN hlt
          rcases hcs with ⟨hg, he⟩ | ⟨hg, h32, hg2, he⟩ | ⟨hg, hg2, he⟩
          · have hx := refGreat_any c wo
            rw [decide_eq_true hg] at hx
            have hwr : IntKind.i32.wrap (c + 32) = c + 32 := IntWalk.i32_in _ (by omega)
            have HE := Lib.hid he
            clear hg he
            go_wp2_with fail
            refine hx.mono ?_
            rintro e w5 ⟨rfl, hb5⟩
            have hfin := RnIn.lit' w5 [c, c + 32] (by simp) HE.out
            have HF := Lib.hid hfin
            have HB5 := Lib.hid ((HB2.out.onto hb5).onto ((Below.refl _ _).alloc (Nat.le_refl _) (.cells (i32s [c, c + 32]).toArray 21)))
            clear hx hfin hb5
            go_wp2_with fail
            go_ret
            exact ⟨_, _, _, rfl, HF.out, HB5.out⟩
          · have hx := refGreat_any c wo
            rw [decide_eq_false hg] at hx
            have hy := fun W => refGreat_any (c - 32) W
            rw [decide_eq_true hg2] at hy
            have hwr : IntKind.i32.wrap (c - 32) = c - 32 := IntWalk.i32_in _ (by omega)
            have d32 : decide (32 ≤ c) = true := decide_eq_true h32
            have HE := Lib.hid he
            clear hg hg2 he
            go_wp2_with fail
            refine hx.mono ?_
            rintro e w5 ⟨rfl, hb5⟩
            clear hx
            go_wp2_with fail
            refine (hy _).mono ?_
            rintro e w6 ⟨rfl, hb6⟩
            have hfin := RnIn.lit' w6 [c - 32, c] (by simp) HE.out
            have HF := Lib.hid hfin
            have HB5 := Lib.hid (((HB2.out.onto hb5).onto hb6).onto ((Below.refl _ _).alloc (Nat.le_refl _) (.cells (i32s [c - 32, c]).toArray 21)))
            clear hy hfin hb5 hb6
            go_wp2_with fail
            go_ret
            exact ⟨_, _, _, rfl, HF.out, HB5.out⟩
          · have hx := refGreat_any c wo
            rw [decide_eq_false hg] at hx
            have hwr : IntKind.i32.wrap (c - 32) = c - 32 := IntWalk.i32_in _ (by omega)
            have HE := Lib.hid he
            clear hg he
            by_cases h32 : 32 ≤ c
            · have hy := fun W => refGreat_any (c - 32) W
              rw [decide_eq_false (fun h => hg2 ⟨h32, h⟩)] at hy
              have d32 : decide (32 ≤ c) = true := decide_eq_true h32
              clear hg2
              go_wp2_with fail
              refine hx.mono ?_
              rintro e w5 ⟨rfl, hb5⟩
              clear hx
              go_wp2_with fail
              refine (hy _).mono ?_
              rintro e w6 ⟨rfl, hb6⟩
              have hfin := RnIn.lit' w6 [c] (by simp) HE.out
              have HF := Lib.hid hfin
              have HB5 := Lib.hid (((HB2.out.onto hb5).onto hb6).onto ((Below.refl _ _).alloc (Nat.le_refl _) (.cells (i32s [c]).toArray 21)))
              clear hy hfin hb5 hb6
              go_wp2_with fail
              go_ret
              exact ⟨_, _, _, rfl, HF.out, HB5.out⟩
            · have d32 : decide (32 ≤ c) = false := decide_eq_false h32
              clear hg2
              go_wp2_with fail
              refine hx.mono ?_
              rintro e w5 ⟨rfl, hb5⟩
              clear hx
              have hfin := RnIn.lit' w5 [c] (by simp) HE.out
              have HF := Lib.hid hfin
              have HB5 := Lib.hid ((HB2.out.onto hb5).onto ((Below.refl _ _).alloc (Nat.le_refl _) (.cells (i32s [c]).toArray 21)))
              clear hfin hb5
              go_wp2_with fail
              go_ret
              exact ⟨_, _, _, rfl, HF.out, HB5.out⟩
    · have he : orbL c = [] := if_neg fun h => h1 h.2
      rw [he]
      have k0 : ¬ c < 0 := by omega
      have k1 : 1114111 < c := by omega
      clear h0 h1 he
      go_enter Try.func29, Try.ntmps29
      go_wp2_with fail
      go_ret
      exact ⟨_, _, _, rfl, RnIn.empty _, Below.refl _ _⟩
  · have he : orbL c = [] := if_neg fun h => h0 h.1
    rw [he]
    have k0 : c < 0 := by omega
    clear h0 he
    go_enter Try.func29, Try.ntmps29
    go_wp2_with fail
    go_ret
    exact ⟨_, _, _, rfl, RnIn.empty _, Below.refl _ _⟩

set_option maxHeartbeats 1000000 in
theorem tablesOrbits_walk {w : World} (c : Int) (hc : -2147483648 ≤ c ∧ c ≤ 2147483647) :
    Calls Try.prog 4 #[.int .i32 c] w fun e w' => e = .returned (.bool true) ∧ Below w.heap.size w w' := by
  have hx := fun W => orbit_any c W
  have hy := fun W => refOrbit_any c W hc.1 hc.2
  go_enter Try.func4, Try.ntmps4
  go_wp2_with fail
  refine (head3_any w).mono ?_
  rintro e w1 ⟨rfl, hb1⟩
  go_wp2_with fail
  refine (hx w1).mono ?_
  rintro e w2 ⟨B, m, d, rfl, hR, hb2⟩
  go_wp2_with fail
  refine (hy w2).mono ?_
  rintro e w3 ⟨B', m', d', rfl, hR', hb3⟩
  have hs := same3_any (hR.below hb3) hR'
  rw [decide_eq_true rfl] at hs
  have HB := Lib.hid ((hb1.onto hb2).onto hb3)
  clear hx hy hR hR' hb1 hb2 hb3
  go_wp2_with fail
  refine hs.mono ?_
  rintro e w4 ⟨rfl, hb4⟩
  have HB4 := Lib.hid (HB.out.onto hb4)
  clear hs hb4
  go_wp2_with fail
  go_ret
  exact ⟨rfl, HB4.out⟩
end Go.Proofs.Ytoglnankopdohaa
