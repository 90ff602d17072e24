/- The reference's Fold. -/
import Derived.Test.YtoglnankopdohaaFo1
import Derived.Test.YtoglnankopdohaaHeld
namespace Go.Proofs.Ytoglnankopdohaa
open Go.RowKit

theorem own_lit (w : World) (l : List Int) (h1 : l.length ≤ 1000) {l' : List Int} (h : l' = l) {b : Nat} (hb : b ≤ w.heap.size) : (w.alloc (.cells (i32s l).toArray 21)).ownsRow b 21 1 (.slice (some ⟨w.heap.size, 0, none⟩) l.length l.length) l.length (i32s l') := by
  rw [h]
  exact World.ownsRow_lit (base := b) (size := 1) (e := 21) w (i32s l).toArray l.length hb (by unfold maxLen; omega) (by simp [i32s])

set_option maxRecDepth 20000 in
set_option maxHeartbeats 4000000 in
theorem refOrbit_own (c : Int) (w : World) (h0 : 0 ≤ c) (h1 : c ≤ 1114111) : Calls Try.prog 29 #[.int .i32 c] w fun e w' => ∃ B m d, e = .returned (.slice B m d) ∧ w'.ownsRow w.heap.size 21 1 (.slice B m d) m (i32s (orbR c)) ∧ Below w.heap.size w w' := by
  have k0 : ¬ c < 0 := by omega
  have k1 : ¬ 1114111 < c := by omega
  have hg := refGroups_any w
  clear h0
  go_enter Try.func29, Try.ntmps29
  go_wp2_with fail
  refine hg.mono ?_
  rintro e w1 ⟨rfl, hG, hb⟩
  have HGI := Lib.hid hG
  have HB := Lib.hid hb
  clear hg hG hb
  generalize w.heap.size + 7 = b at HGI ⊢
  go_wp2_with fail
  go_loopg [4] 8 (fun q i wr => ∃ (j : Nat), q = 8 - j ∧ j ≤ 7 ∧ i = .int .i64 (j : Int) ∧ Hid (Below w1.heap.size w1 wr) ∧ Hid (∀ k, k < j → ∀ g, G3[k]? = some g → c ∉ g))
  case atStart => exact ⟨0, rfl, by omega, rfl, Lib.hid (Below.refl _ _), Lib.hid (by intro k hk; omega)⟩
  case round =>
    obtain ⟨j, hgk, hj, rfl, HW, HN⟩ := hrel
    obtain ⟨wo, hwo⟩ : ∃ wo, wo = wr := ⟨_, rfl⟩
    subst hwo
    have HG := Lib.hid hgk
    clear hgk
    by_cases hlt : j < 7
    · have hi : (j : Int) < 7 := by omega
      obtain ⟨g, hgg⟩ : ∃ g, G3[j]? = some g := ⟨_, List.getElem?_eq_getElem (by simpa [G3] using hlt)⟩
      obtain ⟨a, ha, hR⟩ := (HGI.out.below HW.out).at_ j g hgg
      have hgl := grp_len (List.mem_of_getElem? hgg)
      have HGG := Lib.hid hgg
      have HR := Lib.hid hR
      have HLT := Lib.hid hlt
      have hgl3 : (g.length : Int) ≤ 3 := by omega
      clear hgg hR hlt
      go_wp2_with fail
      go_loopg [5] (g.length + 1) (fun q i wr => ∃ (k : Nat), q = g.length + 1 - k ∧ k ≤ g.length ∧ i = .int .i64 (k : Int) ∧ Hid (Below wo.heap.size wo wr) ∧ Hid (∀ t, t < k → g[t]? ≠ some c))
      case atStart => exact ⟨0, rfl, by omega, rfl, Lib.hid (Below.refl _ _), Lib.hid (by intro k hk; omega)⟩
      case round =>
        obtain ⟨k, hgk2, hk, rfl, HW2, HN2⟩ := hrel
        have HG2 := Lib.hid hgk2
        have hbl : b < wo.heap.size := (HGI.out.below HW.out).lt
        have ha2 : wr.cell? ⟨b, j, none⟩ = some (.slice (some ⟨a, 0, none⟩) g.length g.length) := (HW2.out.cell (p := ⟨b, j, none⟩) hbl).trans ha
        clear hgk2
        by_cases hlt2 : k < g.length
        · have hi2 : (k : Int) < (g.length : Int) := by omega
          obtain ⟨b2, o2, x, hAe, _, hx, hcx⟩ := (HR.out.below HW2.out).at hlt2
          injection hAe with hAe
          injection hAe with e1 e2
          subst e1; subst e2
          have c1 := hcx wr (Same.refl _ _ _)
          rw [Nat.zero_add] at c1
          have HX := Lib.hid hx
          have HLT2 := Lib.hid hlt2
          clear hx hcx hlt2
          by_cases hxc : x = c
          · have hxb : (x == c) = true := beq_iff_eq.2 hxc
            have hs := fun W (h : RnIn W (some ⟨a, 0, none⟩) g.length g.length g) => refSorted_any h (g3_rising g (List.mem_of_getElem? HGG.out)) (by omega)
            have hfin : orbR c = g := orbR_grp (List.mem_of_getElem? HGG.out) (by rw [← hxc]; exact List.mem_of_getElem? HX.out)
            have HF := Lib.hid hfin
            clear hxc hfin
            go_wp2_with fail
            refine (hs _ (HR.out.below HW2.out)).mono ?_
            rintro e w5 ⟨B, d, rfl, hown, hb5⟩
            have hfin2 : w5.ownsRow w.heap.size 21 1 (.slice B g.length d) g.length (i32s (orbR c)) := by rw [HF.out]; exact ownsRow_base hown (by have := HB.out.size; have := HW.out.size; have := HW2.out.size; omega)
            have HFIN := Lib.hid hfin2
            have HB5 := Lib.hid (HB.out.onto (HW.out.onto (HW2.out.onto hb5)))
            clear hs hown hb5 hfin2
            go_wp2_with fail
            go_ret
            exact ⟨_, _, _, rfl, HFIN.out, HB5.out⟩
          · have hxb : (x == c) = false := beq_eq_false_iff_ne.2 hxc
            have HNN : Hid (∀ t, t < k + 1 → g[t]? ≠ some c) := Lib.hid fun t ht hr => by
              rcases Nat.lt_succ_iff_lt_or_eq.1 ht with h | h
              · exact HN2.out t h hr
              · subst h; rw [HX.out] at hr; injection hr with hr; exact hxc hr
            clear hxc HN2
            go_wp2_with fail
            go_roundg (g.length + 1 - (k + 1))
            case measure => have := HG2.out; have := HLT2.out; omega
            case rel => exact ⟨k + 1, rfl, by have := HLT2.out; omega, by go_num, HW2, HNN⟩
        · have hi2 : ¬ (k : Int) < (g.length : Int) := by omega
          have hng : c ∉ g := fun hm => by
            obtain ⟨t, ht, he⟩ := List.getElem_of_mem hm
            exact HN2.out t (by omega) (by rw [← he]; exact List.getElem?_eq_getElem ht)
          have HNN : Hid (∀ t, t < j + 1 → ∀ g', G3[t]? = some g' → c ∉ g') := Lib.hid fun t ht g' hg' => by
            rcases Nat.lt_succ_iff_lt_or_eq.1 ht with h | h
            · exact HN.out t h g' hg'
            · subst h; rw [HGG.out] at hg'; injection hg' with hg'; rw [← hg']; exact hng
          have HW3 := Lib.hid (HW.out.onto HW2.out)
          clear hng HN2 HN hlt2
          go_wp2_with fail
          go_roundg (8 - (j + 1))
          case measure => have := HG.out; have := HLT.out; omega
          case rel => exact ⟨j + 1, rfl, by have := HLT.out; omega, by go_num, HW3, HNN⟩
    · have hj7 : j = 7 := by omega
      subst hj7
      have hi : ¬ ((7 : Nat) : Int) < 7 := by omega
      have hno : ∀ g ∈ G3, c ∉ g := fun g hm => by
        obtain ⟨t, ht, he⟩ := List.getElem_of_mem hm
        exact HN.out t (by simpa [G3] using ht) g (by rw [← he]; exact List.getElem?_eq_getElem ht)
      have hcs := orb_no hno
      have HB2 := Lib.hid (HB.out.onto HW.out)
      clear hno HN hlt
      rcases hcs with ⟨hg, he⟩ | ⟨hg, h32, hg2, he⟩ | ⟨hg, hg2, he⟩
      · have hx := refGreat_any c wo
        rw [decide_eq_true hg] at hx
        have hwr : IntKind.i32.wrap (c + 32) = c + 32 := IntWalk.i32_in _ (by omega)
        have HE := Lib.hid he
        clear hg he
        go_wp2_with fail
        refine hx.mono ?_
        rintro e w5 ⟨rfl, hb5⟩
        have HLW := Lib.hid ((HB2.out.onto hb5).size)
        have hfin := own_lit w5 [c, c + 32] (by simp) HE.out HLW.out
        have HF := Lib.hid hfin
        have HB5 := Lib.hid ((HB2.out.onto hb5).onto ((Below.refl _ _).alloc (Nat.le_refl _) (.cells (i32s [c, c + 32]).toArray 21)))
        clear hx hfin hb5
        go_wp2_with fail
        go_ret
        exact ⟨_, _, _, rfl, HF.out, HB5.out⟩
      · have hx := refGreat_any c wo
        rw [decide_eq_false hg] at hx
        have hy := fun W => refGreat_any (c - 32) W
        rw [decide_eq_true hg2] at hy
        have hwr : IntKind.i32.wrap (c - 32) = c - 32 := IntWalk.i32_in _ (by omega)
        have d32 : decide (32 ≤ c) = true := decide_eq_true h32
        have HE := Lib.hid he
        clear hg hg2 he
        go_wp2_with fail
        refine hx.mono ?_
        rintro e w5 ⟨rfl, hb5⟩
        clear hx
        go_wp2_with fail
        refine (hy _).mono ?_
        rintro e w6 ⟨rfl, hb6⟩
        have HLW := Lib.hid (((HB2.out.onto hb5).onto hb6).size)
        have hfin := own_lit w6 [c - 32, c] (by simp) HE.out HLW.out
        have HF := Lib.hid hfin
        have HB5 := Lib.hid (((HB2.out.onto hb5).onto hb6).onto ((Below.refl _ _).alloc (Nat.le_refl _) (.cells (i32s [c - 32, c]).toArray 21)))
        clear hy hfin hb5 hb6
        go_wp2_with fail
        go_ret
        exact ⟨_, _, _, rfl, HF.out, HB5.out⟩
      · have hx := refGreat_any c wo
        rw [decide_eq_false hg] at hx
        have hwr : IntKind.i32.wrap (c - 32) = c - 32 := IntWalk.i32_in _ (by omega)
        have HE := Lib.hid he
        clear hg he
        by_cases h32 : 32 ≤ c
        · have hy := fun W => refGreat_any (c - 32) W
          rw [decide_eq_false (fun h => hg2 ⟨h32, h⟩)] at hy
          have d32 : decide (32 ≤ c) = true := decide_eq_true h32
          clear hg2
          go_wp2_with fail
          refine hx.mono ?_
          rintro e w5 ⟨rfl, hb5⟩
          clear hx
          go_wp2_with fail
          refine (hy _).mono ?_
          rintro e w6 ⟨rfl, hb6⟩
          have HLW := Lib.hid (((HB2.out.onto hb5).onto hb6).size)
          have hfin := own_lit w6 [c] (by simp) HE.out HLW.out
          have HF := Lib.hid hfin
          have HB5 := Lib.hid (((HB2.out.onto hb5).onto hb6).onto ((Below.refl _ _).alloc (Nat.le_refl _) (.cells (i32s [c]).toArray 21)))
          clear hy hfin hb5 hb6
          go_wp2_with fail
          go_ret
          exact ⟨_, _, _, rfl, HF.out, HB5.out⟩
        · have d32 : decide (32 ≤ c) = false := decide_eq_false h32
          clear hg2
          go_wp2_with fail
          refine hx.mono ?_
          rintro e w5 ⟨rfl, hb5⟩
          clear hx
          have HLW := Lib.hid ((HB2.out.onto hb5).size)
          have hfin := own_lit w5 [c] (by simp) HE.out HLW.out
          have HF := Lib.hid hfin
          have HB5 := Lib.hid ((HB2.out.onto hb5).onto ((Below.refl _ _).alloc (Nat.le_refl _) (.cells (i32s [c]).toArray 21)))
          clear hfin hb5
          go_wp2_with fail
          go_ret
          exact ⟨_, _, _, rfl, HF.out, HB5.out⟩


theorem grown_undrew {w w' : World} {row : Option Nat} (h : w.drew.grownBy w' row) : w.grownBy w' row := ⟨h.os, h.tape, h.output, h.size, h.block⟩
theorem RgIn.take {w : World} {A : Option Addr} {n c : Nat} {l : List Rg} (h : RgIn w A n c l) (k : Nat) (hk : k ≤ n) (hA : 0 < n) : RgIn w A k c (l.take k) :=
  ⟨by rw [rgCells_take]; exact h.rd.take _, by rw [List.length_take, h.len]; omega, Nat.le_trans hk h.le, h.max, fun hn => by have := h.nil hn; omega, fun p hp => h.fits p (List.mem_of_mem_take hp)⟩
theorem RgIn.drop {w : World} {b o : Nat} {n c : Nat} {l : List Rg} (h : RgIn w (some ⟨b, o, none⟩) n c l) (k : Nat) (hk : k < n) : RgIn w (some ⟨b, o + k * 2, none⟩) (n - k) (c - k) (l.drop k) := by
  have hc := h.le
  refine ⟨?_, by rw [List.length_drop, h.len], by omega, by have := h.max; omega, (fun hn => by cases hn), fun p hp => h.fits p (List.mem_of_mem_drop hp)⟩
  rw [rgCells_drop]
  have h1 := h.rd.cut (n := n) (k := k) (c := c) (size := 2) (by rw [rgCells_length, h.len]) (by omega) (by omega) hc
  rw [if_neg (by omega)] at h1
  intro hp
  obtain ⟨b', o', hA, x1, x2, x3⟩ := h1 hp
  refine ⟨b', o', ?_, x1, x2, x3⟩
  rw [← hA]
  simp only [Option.map_some, Addr.add]
  split <;> simp_all
theorem RgIn.some {w : World} {A : Option Addr} {n c : Nat} {l : List Rg} (h : RgIn w A n c l) (h0 : 0 < n) : ∃ b o, A = .some ⟨b, o, none⟩ ∧ b < w.heap.size := by
  obtain ⟨b, o, hA, _, hb, _⟩ := h.rd (by rw [rgCells_length, h.len]; omega)
  exact ⟨b, o, hA, hb⟩
theorem orb_high {c : Int} (h : 12288 ≤ c) : orbR c = [c] := by
  rcases dom_or c with ⟨s, hs, hd⟩ | he
  · have hh : ∀ s ∈ ST, s.2.1 < 12288 ∧ s.2.1 + s.2.2 < 12288 := by decide
    have := hh s hs
    omega
  · exact he
/-- The runes below f that the first i ranges have are seen to. -/
def CovR (s M : List Rg) (i : Nat) : Prop := ∀ j p, j < i → s[j]? = some p → ∀ c, p.1 ≤ c → c ≤ p.2 → c < 12288 → ∀ x ∈ orbR c, mem M x
theorem CovR.more {s M : List Rg} {i : Nat} (h : CovR s M i) (N : List Rg) : CovR s (M ++ N) i := fun j p hj hp c a b d x hx => (mem_append _ _ _).2 (.inl (h j p hj hp c a b d x hx))
def CovC (M : List Rg) (lo c : Int) : Prop := ∀ y, lo ≤ y → y < c → ∀ x ∈ orbR y, mem M x
theorem CovC.more {M : List Rg} {lo c : Int} (h : CovC M lo c) (N : List Rg) : CovC (M ++ N) lo c := fun y a b x hx => (mem_append _ _ _).2 (.inl (h y a b x hx))
theorem CovR.up {s M : List Rg} {i : Nat} {lo hi c : Int} (h : CovR s M i) (hp : s[i]? = some (lo, hi)) (hc : CovC M lo c) (he : hi < c ∨ 12288 ≤ c) : CovR s M (i + 1) := fun j p hj hp' y a b d x hx => by
  rcases Nat.lt_succ_iff_lt_or_eq.1 hj with h' | h'
  · exact h j p h' hp' y a b d x hx
  · subst h'
    rw [hp] at hp'
    injection hp' with hp'
    subst hp'
    exact hc y a (by simp only at b; omega) x hx
theorem refFold_end {l s M : List Rg} (hs : SetOf (mem l) s) (h : FM s M) (hk : CovR s M s.length) (x : Int) (h0 : 0 ≤ x) (h1 : x ≤ maxR) : (mem s x ∨ mem M x) ↔ FoldP l x := by
  constructor
  · rintro (h2 | h2)
    · exact ⟨x, (hs.mem x).1 h2, orb_self x⟩
    · obtain ⟨c, hc, hx⟩ := h.only x h2
      exact ⟨c, (hs.mem c).1 hc, hx⟩
  · rintro ⟨c, hc, hx⟩
    have hc' := (hs.mem c).2 hc
    by_cases hlt : c < 12288
    · obtain ⟨p, hp, h2, h3⟩ := hc'
      obtain ⟨j, hj, rfl⟩ := List.getElem_of_mem hp
      exact .inr (hk j _ hj (List.getElem?_eq_getElem hj) c h2 h3 hlt x hx)
    · rw [orb_high (by omega), List.mem_singleton] at hx
      rw [hx]; exact .inl hc'
theorem canon_step {s : List Rg} (h : Canon s) {i j : Nat} {p q : Rg} (hp : s[i]? = some p) (hq : s[j]? = some q) (hij : i < j) : p.2 + 2 ≤ q.1 := by
  obtain ⟨a, rfl⟩ := List.getElem?_eq_some_iff.1 hp
  obtain ⟨b, rfl⟩ := List.getElem?_eq_some_iff.1 hq
  exact List.pairwise_iff_getElem.1 h.2 i j a b hij
set_option maxRecDepth 20000 in
set_option maxHeartbeats 8000000 in
theorem refFold_any {w : World} {A : Option Addr} {n c : Nat} {l : List Rg} (hA : RgIn w A n c l) (hn : n ≤ 700000) :
    Calls Try.prog 57 #[.slice A n c] w fun e w' => ∃ B m d s, e = .returned (.slice B m d) ∧ Got (FoldP l) w B m d s w' := by
  have hN := refNorm_got hA (by omega)
  clear hA
  go_enter Try.func57, Try.ntmps57
  go_wp2_with fail
  refine hN.mono ?_
  rintro e w2 ⟨B, m, d, s, rfl, hmn, hG⟩
  have HGT := Lib.hid hG
  have hm6 : m ≤ 600000 := by rw [← hG.len]; exact hG.small
  have hm7 : m ≤ 700000 := by omega
  clear hN hG hmn hn
  go_wp2_with fail
  go_loopg [4, 5] (m + 1) (fun q mv iv W => ∃ (i : Nat) (M : List Rg) (F : Option Addr) (f : Nat) (z : Int), q = m + 1 - i ∧ i ≤ m ∧ mv = .slice F M.length f ∧ iv = .int .i64 (i : Int) ∧ (M.length : Int) ≤ 3 * z ∧ z ≤ 12288 ∧ Hid (∀ j p, i ≤ j → s[j]? = some p → z ≤ p.1) ∧ Hid (FM s M) ∧ Hid (CovR s M i) ∧ Hid (FW w2 W M F f))
  case atStart => exact ⟨0, [], _, _, 0, rfl, by omega, rfl, rfl, by simp, by omega, Lib.hid (fun j p _ hp => (HGT.out.set.canon.1 p (List.mem_of_getElem? hp)).1), Lib.hid (FM.nil s), Lib.hid (fun j p hj => by omega), Lib.hid ⟨World.ownsRow_nil _ _ _ _, Below.refl _ _⟩⟩
  case round =>
    obtain ⟨i, M, F, f, z, hgk, hi, rfl, rfl, hml, hz12, HZ, HFM, HCR, HFW⟩ := hrel
    obtain ⟨wo, hwo⟩ : ∃ wo, wo = wr := ⟨_, rfl⟩
    subst hwo
    have HG := Lib.hid hgk
    clear hgk
    by_cases hlt : i < m
    · have hii : (i : Int) < (m : Int) := by omega
      have hRs := HGT.out.rg.below HFW.out.below
      obtain ⟨b, o, p, hBe, hbl, hp, hc⟩ := HGT.out.rg.at hlt
      obtain ⟨lo, hi3⟩ := p
      have hr := HGT.out.set.canon.1 _ (List.mem_of_getElem? hp)
      have hzlo : z ≤ lo := HZ.out i _ (Nat.le_refl _) hp
      have hlo0 : 0 ≤ lo := hr.1
      have hlo1 : lo ≤ 1114111 := by have := hr.2; unfold maxR at this; simp only at this; omega
      have hhi1 : hi3 ≤ 1114111 := by have := hr.2.2; unfold maxR at this; exact this
      have hcc : ∀ W, Below w2.heap.size w2 W → W.cell? ⟨b, o + i * 2, none⟩ = some (.int .i32 lo) ∧ W.cell? ⟨b, o + i * 2 + 1, none⟩ = some (.int .i32 hi3) := fun W hW => hc.1 W (.of_below hW (Nat.le_refl _))
      obtain ⟨c1, c2⟩ := hcc wo HFW.out.below
      have HCC := Lib.hid hcc
      have HP := Lib.hid hp
      have HLT := Lib.hid hlt
      have HC0 : Hid (CovC M lo lo) := Lib.hid (fun y a b => by omega)
      have hMz : (M.length : Int) ≤ 3 * lo := by omega
      have hMz2 : (M.length : Int) ≤ 36864 := by omega
      subst hBe
      clear hp hlt hc hcc hr hRs hml
      go_wp2_with fail
      go_loopg [4, 6] (1200000 - lo.toNat) (fun q mv cv W => ∃ (c : Int) (M : List Rg) (F : Option Addr) (f : Nat), q = 1200000 - c.toNat ∧ lo ≤ c ∧ c ≤ 1114112 ∧ mv = .slice F M.length f ∧ cv = .int .i32 c ∧ (M.length : Int) ≤ 3 * c ∧ (M.length : Int) ≤ 36864 ∧ Hid (c ≤ hi3 + 1 ∨ c = lo) ∧ Hid (FM s M) ∧ Hid (CovR s M i) ∧ Hid (CovC M lo c) ∧ Hid (FW w2 W M F f))
      case atStart => exact ⟨lo, M, F, f, rfl, by omega, by omega, rfl, rfl, hMz, hMz2, Lib.hid (.inr rfl), HFM, HCR, HC0, HFW⟩
      case round =>
        clear HFM HCR HC0 HFW c1 c2 hMz hMz2
        obtain ⟨c, M, F, f, hgk, hc0, hc1, rfl, rfl, hml, hml2, HCH, HFM, HCR, HCC2, HFW⟩ := hrel
        obtain ⟨wo2, hwo2⟩ : ∃ wo2, wo2 = wr := ⟨_, rfl⟩
        subst hwo2
        have HG2 := Lib.hid hgk
        clear hgk
        obtain ⟨q1, q2⟩ := HCC.out wo2 HFW.out.below
        by_cases hch : c ≤ hi3
        · by_cases hc12 : c < 12288
          · have hd1 : decide (c ≤ hi3) = true := decide_eq_true hch
            have hd2 : decide (c < 12288) = true := decide_eq_true hc12
            have ho := refOrbit_own c wo2 (by omega) (by omega)
            have hmem : mem s c := ⟨_, List.mem_of_getElem? HP.out, hc0, hch⟩
            have HM := Lib.hid hmem
            have hwc : IntKind.i32.wrap (c + 1) = c + 1 := IntWalk.i32_in _ (by omega)
            clear hmem
            go_wp2_with fail
            refine ho.mono ?_
            rintro e w5 ⟨Bo, mo, dd, rfl, hown, hb5⟩
            have HFW5 : Hid (FW w2 w5 M F f) := Lib.hid ⟨ownsRow_below' HFW.out.own hb5, HFW.out.below.trans (hb5.mono HFW.out.below.size)⟩
            have HOW := Lib.hid hown
            have hmo : mo = (orbR c).length := by have := hown.1; rw [i32s_length] at this; omega
            have hmo3 := orb_len c
            rw [← hmo] at hmo3
            have HMO := Lib.hid hmo
            clear ho hown hb5 HFW hmo q1 q2
            go_wp2_with fail
            go_loopg [4, 8] 4 (fun g mv rv W => ∃ (r : Nat) (L : List Rg) (F : Option Addr) (f : Nat), g = 4 - r ∧ r ≤ mo ∧ mv = .slice F (M.length + r) f ∧ rv = .int .i64 (r : Int) ∧ Hid (L.length = r) ∧ Hid (FM s (M ++ L)) ∧ Hid (∀ t x, t < r → (orbR c)[t]? = some x → mem (M ++ L) x) ∧ Hid (FW w2 W (M ++ L) F f) ∧ Hid (W.ownsRow wo2.heap.size 21 1 (.slice Bo mo dd) mo (i32s (orbR c))))
            case atStart => exact ⟨0, [], F, f, rfl, by omega, rfl, rfl, Lib.hid rfl, by rw [List.append_nil]; exact HFM, Lib.hid (fun t x ht => by omega), by rw [List.append_nil]; exact HFW5, HOW⟩
            case round =>
              clear HFW5 HOW
              obtain ⟨r, L, F, f, hgk, hr, rfl, rfl, HLr, HFM2, HCR2, HFW, HOW⟩ := hrel
              obtain ⟨wo3, hwo3⟩ : ∃ wo3, wo3 = wr := ⟨_, rfl⟩
              subst hwo3
              have HG4 := Lib.hid hgk
              clear hgk
              by_cases hlt : r < mo
              · have hri : (r : Int) < (mo : Int) := by omega
                have hri0 : (0 : Int) ≤ (r : Int) := by omega
                obtain ⟨b7, o7, x, hBe, hb7, hx, hcx⟩ := (RnIn.of_own HOW.out HMO.out.symm).at hlt
                have HX := Lib.hid hx
                have HCX := Lib.hid hcx
                have HLT4 := Lib.hid hlt
                have hMl : (M ++ L).length = M.length + r := by rw [List.length_append, HLr.out]
                have hown := HFW.out.own
                rw [hMl] at hown
                have hwz := HFW.out.below.size
                subst hBe
                clear hx hcx hlt
                have HP2 : ∀ (v' : Value) (W2 : World) (F' : Option Addr) (f' : Nat), v' = .slice F' (M.length + r + 1) f' → W2.ownsRow w2.heap.size 28 2 v' (M.length + r + 1) (rgCells (M ++ L) ++ [.int .i32 x, .int .i32 x]) → (wo3.alloc (.cells #[.int .i32 x, .int .i32 x] 28)).grownBy W2 (Value.slice F (M.length + r) f).ownBlock →
                    Hid (FW w2 W2 (M ++ (L ++ [(x, x)])) F' f' ∧ W2.ownsRow wo2.heap.size 21 1 (.slice (some ⟨b7, o7, none⟩) mo dd) mo (i32s (orbR c))) := by
                  intro v' W2 F' f' hv' ho hg
                  subst hv'
                  refine Lib.hid ⟨⟨?_, ?_⟩, ?_⟩
                  · rw [← List.append_assoc, List.length_append, rgCells_append, hMl]
                    exact ho
                  · exact (HFW.out.below.alloc HFW.out.below.size _).grown hg (by have := HFW.out.below.size; simp; omega) (own_above hown)
                  · exact (HOW.out.alloc _).kept hg (own_ne_own HOW.out hown (by decide))
                have HPH := Lib.hid HP2
                have hS : wo3.drew.cell? ⟨b7, o7 + r, none⟩ = some (.int .i32 x) := HCX.out _ ((Same.refl _ _ _).drew)
                have hS2 : (wo3.drew.alloc (.cells #[.int .i32 x, .int .i32 x] 28)).cell? ⟨b7, o7 + r, none⟩ = some (.int .i32 x) := HCX.out _ (((Same.refl _ _ _).drew).alloc (Nat.le_refl _) _)
                have hne : some b7 ≠ (Value.slice F (M.length + r) f).ownBlock := by
                  have := own_ne_own HOW.out hown (by decide)
                  simpa [Value.ownBlock] using this
                have HNE := Lib.hid hne
                clear hne
                have HL36 : M.length + r ≤ 40000 := by omega
                clear HP2
                go_wp2_with fail
                refine wp_region_T (S := fun w' => w'.cell? ⟨b7, o7 + r, none⟩ = some (.int .i32 x)) (t := 13) (by kernel_rfl) ?_
                refine wpAnyT_take (i := 0) (v := ?_) rfl (by kernel_rfl) (by kernel_rfl) (by kernel_rfl) (fun _ _ _ h => h) (by kernel_rfl) (Or.inl ⟨by rfl, ?_⟩) hS ?_
                rotate_left
                · (intro w _; go_simp; try with_reducible rfl)
                try simp only [Array.getInternal_eq_getElem, List.getElem_toArray, List.getElem_cons_succ, List.getElem_cons_zero, Act.put, List.setIfInBounds_toArray, List.set_cons_zero, List.set_cons_succ]
                refine wpAnyT_take (i := 1) (v := ?_) rfl (by kernel_rfl) (by kernel_rfl) (by kernel_rfl) (fun _ _ _ h => h) (by kernel_rfl) (Or.inl ⟨by rfl, ?_⟩) hS ?_
                rotate_left
                · (intro w _; go_simp; try with_reducible rfl)
                try simp only [Array.getInternal_eq_getElem, List.getElem_toArray, List.getElem_cons_succ, List.getElem_cons_zero, Act.put, List.setIfInBounds_toArray, List.set_cons_zero, List.set_cons_succ]
                refine wpAnyT_take (i := 2) (v := ?_) rfl (by kernel_rfl) (by kernel_rfl) (by kernel_rfl) (fun _ _ _ h => h) (by kernel_rfl) (Or.inl ⟨by rfl, ?_⟩) hS ?_
                rotate_left
                · (intro w _; go_simp; try with_reducible rfl)
                try simp only [Array.getInternal_eq_getElem, List.getElem_toArray, List.getElem_cons_succ, List.getElem_cons_zero, Act.put, List.setIfInBounds_toArray, List.set_cons_zero, List.set_cons_succ]
                refine wpAnyT_take (i := 3) (v := ?_) rfl (by kernel_rfl) (by kernel_rfl) (by kernel_rfl) (fun _ _ _ h => h) (by kernel_rfl) (Or.inl ⟨by rfl, ?_⟩) hS ?_
                rotate_left
                · (intro w _; go_simp; try with_reducible rfl)
                try simp only [Array.getInternal_eq_getElem, List.getElem_toArray, List.getElem_cons_succ, List.getElem_cons_zero, Act.put, List.setIfInBounds_toArray, List.set_cons_zero, List.set_cons_succ]
                refine wpAnyT_take (i := 4) (v := ?_) rfl (by kernel_rfl) (by kernel_rfl) (by kernel_rfl) (fun _ _ _ h => h) (by kernel_rfl) (Or.inl ⟨by rfl, ?_⟩) hS ?_
                rotate_left
                · (intro w hS; have s1 := hS; go_simp; try with_reducible rfl)
                try simp only [Array.getInternal_eq_getElem, List.getElem_toArray, List.getElem_cons_succ, List.getElem_cons_zero, Act.put, List.setIfInBounds_toArray, List.set_cons_zero, List.set_cons_succ]
                refine wpAnyT_take (i := 5) (v := ?_) rfl (by kernel_rfl) (by kernel_rfl) (by kernel_rfl) (fun _ _ _ h => h) (by kernel_rfl) (Or.inl ⟨by rfl, ?_⟩) hS ?_
                rotate_left
                · (intro w _; go_simp; try with_reducible rfl)
                try simp only [Array.getInternal_eq_getElem, List.getElem_toArray, List.getElem_cons_succ, List.getElem_cons_zero, Act.put, List.setIfInBounds_toArray, List.set_cons_zero, List.set_cons_succ]
                refine wpAnyT_take (i := 6) (v := ?_) rfl (by kernel_rfl) (by kernel_rfl) (by kernel_rfl) (fun _ _ _ h => h) (by kernel_rfl) (Or.inl ⟨by rfl, ?_⟩) hS ?_
                rotate_left
                · (intro w _; go_simp; try with_reducible rfl)
                try simp only [Array.getInternal_eq_getElem, List.getElem_toArray, List.getElem_cons_succ, List.getElem_cons_zero, Act.put, List.setIfInBounds_toArray, List.set_cons_zero, List.set_cons_succ]
                refine wpAnyT_take (i := 7) (v := ?_) rfl (by kernel_rfl) (by kernel_rfl) (by kernel_rfl) (fun _ _ _ h => h) (by kernel_rfl) (Or.inl ⟨by rfl, ?_⟩) hS ?_
                rotate_left
                · (intro w _; go_simp; try with_reducible rfl)
                try simp only [Array.getInternal_eq_getElem, List.getElem_toArray, List.getElem_cons_succ, List.getElem_cons_zero, Act.put, List.setIfInBounds_toArray, List.set_cons_zero, List.set_cons_succ]
                refine wpAnyT_take (i := 8) (v := ?_) rfl (by kernel_rfl) (by kernel_rfl) (by kernel_rfl) (fun _ _ _ h => h) (by kernel_rfl) (Or.inl ⟨by rfl, ?_⟩) hS ?_
                rotate_left
                · (intro w hS; have s1 := hS; go_simp; try with_reducible rfl)
                try simp only [Array.getInternal_eq_getElem, List.getElem_toArray, List.getElem_cons_succ, List.getElem_cons_zero, Act.put, List.setIfInBounds_toArray, List.set_cons_zero, List.set_cons_succ]
                refine wpAnyT_take (i := 9) (v := ?_) rfl (by kernel_rfl) (by kernel_rfl) (by kernel_rfl) (fun _ _ _ h => h) (by kernel_rfl) (Or.inl ⟨by rfl, ?_⟩) hS ?_
                rotate_left
                · (intro w _; go_simp; try with_reducible rfl)
                try simp only [Array.getInternal_eq_getElem, List.getElem_toArray, List.getElem_cons_succ, List.getElem_cons_zero, Act.put, List.setIfInBounds_toArray, List.set_cons_zero, List.set_cons_succ]
                refine wpAnyT_one (i := 10) (by kernel_rfl) rfl (fun K hK => ?_)
                go_simp
                replace hS := hS2
                refine hK _ _ (Or.inr hS) ?_
                clear hK K
                try simp only [Array.getInternal_eq_getElem, List.getElem_toArray, List.getElem_cons_succ, List.getElem_cons_zero, Act.put, List.setIfInBounds_toArray, List.set_cons_zero, List.set_cons_succ]
                refine wpAnyT_one (i := 11) (by kernel_rfl) rfl (fun K hK => ?_)
                simp only [Region.wanted, if_true]
                refine wp_app _ (.tmp 44) (.tmp 54) 23 (by rfl) w2.heap.size 28 elRg (.slice F (M.length + r) f) (M.length + r) (rgCells (M ++ L)) (by rfl) (hown.alloc _).drew 0 (wo3.heap.size + 1) (some ⟨wo3.heap.size, 0, none⟩) 1 1 [.int .i32 x, .int .i32 x] (by rfl) (fun h => by cases h) rfl (Rd.new wo3 _ _ _ (Nat.zero_le _) (by omega)) (by simp [Value.oneCell']) (by unfold maxLen; omega) (by omega) (by simp; omega) ?_
                intro v' W2 hv2 hg2 hb2 _
                obtain ⟨F', f', hve, _, _⟩ := own_form hv2
                have hS3 : W2.cell? ⟨b7, o7 + r, none⟩ = some (.int .i32 x) := hg2.cell (a := ⟨b7, o7 + r, none⟩) hS2 HNE.out
                replace hS := hS3
                refine hK _ _ (Or.inr hS) ?_
                clear hK K
                try simp only [Array.getInternal_eq_getElem, List.getElem_toArray, List.getElem_cons_succ, List.getElem_cons_zero, Act.put, List.setIfInBounds_toArray, List.set_cons_zero, List.set_cons_succ]
                refine wpAnyT_take (i := 12) (v := ?_) rfl (by kernel_rfl) (by kernel_rfl) (by kernel_rfl) (fun _ _ _ h => h) (by kernel_rfl) (Or.inl ⟨by rfl, ?_⟩) hS ?_
                rotate_left
                · (intro w _; go_simp; try with_reducible rfl)
                try simp only [Array.getInternal_eq_getElem, List.getElem_toArray, List.getElem_cons_succ, List.getElem_cons_zero, Act.put, List.setIfInBounds_toArray, List.set_cons_zero, List.set_cons_succ]
                refine wpAnyT_done (by kernel_rfl) ?_ _
                have HQ := HPH.out _ _ _ _ hve hv2 (grown_undrew hg2)
                subst hve
                have hfm : FM s (M ++ (L ++ [(x, x)])) := by rw [← List.append_assoc]; exact HFM2.out.put HGT.out.set.canon HM.out (List.mem_of_getElem? HX.out)
                have hcr : ∀ t y, t < r + 1 → (orbR c)[t]? = some y → mem (M ++ (L ++ [(x, x)])) y := by
                  intro t y ht hy
                  rw [← List.append_assoc, mem_append]
                  rcases Nat.lt_succ_iff_lt_or_eq.1 ht with h | h
                  · exact .inl (HCR2.out t y h hy)
                  · subst h
                    rw [HX.out] at hy
                    injection hy with hy
                    subst hy
                    exact .inr ((mem_one _ _).2 ⟨Int.le_refl _, Int.le_refl _⟩)
                have hll : (L ++ [(x, x)]).length = r + 1 := by rw [List.length_append, HLr.out]; rfl
                have HFM3 := Lib.hid hfm
                have HCR3 := Lib.hid hcr
                have HLL := Lib.hid hll
                clear hfm hcr hll hv2 hg2 hown hS hS2
                go_wp2_with fail
                go_roundg (4 - (r + 1))
                case measure => have := HG4.out; have := HLT4.out; omega
                case rel => exact ⟨r + 1, L ++ [(x, x)], F', f', rfl, by have := HLT4.out; omega, rfl, by go_num, HLL, HFM3, HCR3, Lib.hid HQ.out.1, Lib.hid HQ.out.2⟩
              · have hrm : r = mo := by omega
                subst hrm
                have hri : ¬ (r : Int) < (r : Int) := by omega
                have hMl : (M ++ L).length = M.length + r := by rw [List.length_append, HLr.out]
                have hcv : CovC (M ++ L) lo (c + 1) := fun y a b x hx => by
                  by_cases hy : y < c
                  · exact HCC2.out.more L y a hy x hx
                  · have : y = c := by omega
                    subst this
                    obtain ⟨t, ht, rfl⟩ := List.getElem_of_mem hx
                    exact HCR2.out t _ (by have := HMO.out; omega) (List.getElem?_eq_getElem ht)
                have HCV := Lib.hid hcv
                have HCR3 := Lib.hid (HCR.out.more L)
                have h1 : ((M ++ L).length : Int) ≤ 3 * (c + 1) := by rw [hMl]; omega
                have h2 : ((M ++ L).length : Int) ≤ 36864 := by omega
                have H1 := Lib.hid h1
                have H2 := Lib.hid h2
                have HML := Lib.hid hMl
                clear hcv hlt h1 h2 hMl
                go_wp2_with fail
                go_roundg (1200000 - (c + 1).toNat)
                case measure => have := HG2.out; omega
                case rel => exact ⟨c + 1, M ++ L, F, f, rfl, by omega, by omega, by rw [HML.out], rfl, H1.out, H2.out, Lib.hid (.inl (by omega)), HFM2, HCR3, HCV, HFW⟩
          · have hd1 : decide (c ≤ hi3) = true := decide_eq_true hch
            have hd2 : decide (c < 12288) = false := decide_eq_false hc12
            have HCR2 := Lib.hid (HCR.out.up HP.out HCC2.out (.inr (by omega)))
            have HZ2 : Hid (∀ j p, i + 1 ≤ j → s[j]? = some p → 12288 ≤ p.1) := Lib.hid fun j p hj hp => by
              have := canon_step HGT.out.set.canon HP.out hp (by omega)
              simp only at this
              omega
            clear HZ
            go_wp2_with fail
            go_roundg (m + 1 - (i + 1))
            case measure => have := HG.out; have := HLT.out; omega
            case rel => exact ⟨i + 1, M, F, f, 12288, rfl, by have := HLT.out; omega, rfl, by go_num, by omega, by omega, HZ2, HFM, HCR2, HFW⟩
        · have hd1 : decide (c ≤ hi3) = false := decide_eq_false hch
          have HCR2 := Lib.hid (HCR.out.up HP.out HCC2.out (.inl (by omega)))
          have HZ2 : Hid (∀ j p, i + 1 ≤ j → s[j]? = some p → min c 12288 ≤ p.1) := Lib.hid fun j p hj hp => by
            have := canon_step HGT.out.set.canon HP.out hp (by omega)
            have h2 := HCH.out
            have h3 := HGT.out.set.canon.1 _ (List.mem_of_getElem? HP.out)
            simp only at this h3
            omega
          clear HZ
          go_wp2_with fail
          go_roundg (m + 1 - (i + 1))
          case measure => have := HG.out; have := HLT.out; omega
          case rel => exact ⟨i + 1, M, F, f, min c 12288, rfl, by have := HLT.out; omega, rfl, by go_num, by omega, by omega, HZ2, HFM, HCR2, HFW⟩
    · have him : i = m := by omega
      subst him
      have hii : ¬ (i : Int) < (i : Int) := by omega
      have hcr : CovR s M s.length := by rw [HGT.out.len]; exact HCR.out
      have HCRF := Lib.hid hcr
      have hM36 : M.length ≤ 36864 := by omega
      have hR0 : RgIn wo F M.length f M := RgIn.of_own HFW.out.own rfl (fun p hp => fitsRg (HFM.out.fit p hp))
      have hRs : RgIn wo B i d s := HGT.out.rg.below HFW.out.below
      have hbw : Below w.heap.size w wo := HGT.out.below.trans (HFW.out.below.mono HGT.out.below.size)
      have HR0 := Lib.hid hR0
      have HRS := Lib.hid hRs
      have HBW := Lib.hid hbw
      clear hlt hcr HCR hR0 hRs hbw HFW HZ hml hz12
      go_wp2_with fail
      go_loopg [9, 4] (M.length + 1) (fun q ov mv W => ∃ (j : Nat) (O : List Rg) (B' : Option Addr) (m' d' : Nat) (F2 : Option Addr) (n2 f2 : Nat), q = n2 + 1 ∧ ov = .slice B' m' d' ∧ mv = .slice F2 n2 f2 ∧ m' + n2 ≤ 36864 ∧ Hid (RgIn W B' m' d' O) ∧ Hid (RgIn W F2 n2 f2 (M.drop (500 * j))) ∧ Hid (∀ x, 0 ≤ x → x ≤ maxR → (mem O x ↔ mem (M.take (500 * j)) x)) ∧ Hid (Below wo.heap.size wo W))
      case atStart => exact ⟨0, [], none, 0, 0, F, M.length, f, rfl, rfl, rfl, by omega, Lib.hid (RgIn.empty _), HR0, Lib.hid (fun x _ _ => by simp [mem_nil]), Lib.hid (Below.refl _ _)⟩
      case round =>
        clear HR0
        obtain ⟨j, O, B', m', d', F2, n2, f2, hgk, rfl, rfl, hmn, HO, HR, HI, HW⟩ := hrel
        obtain ⟨wo2, hwo2⟩ : ∃ wo2, wo2 = wr := ⟨_, rfl⟩
        subst hwo2
        have HG := Lib.hid hgk
        clear hgk
        by_cases hlt : 500 < n2
        · have hii2 : (500 : Int) < (n2 : Int) := by omega
          obtain ⟨b2, o2, hF, hb2⟩ := HR.out.some (by omega)
          subst hF
          have hf2 := HR.out.le
          have hf5 : (500 : Int) ≤ (f2 : Int) := by omega
          have hf6 : ¬ f2 = 500 := by omega
          have hf7 : (500 : Nat) ≤ f2 := by omega
          have hf8 : (500 : Nat) ≤ n2 := by omega
          have hf9 : (n2 : Int) ≤ (f2 : Int) := by omega
          have hu := refUnion_any HO.out (HR.out.take 500 (by omega) (by omega)) (by omega)
          have HLT := Lib.hid hlt
          clear hlt hb2
          go_wp2_with fail
          refine hu.mono ?_
          rintro e w5 ⟨B5, m5, d5, s5, rfl, hm5, hG5⟩
          have hR5 := (HR.out.drop 500 HLT.out).below hG5.below
          rw [List.drop_drop, show 500 * j + 500 = 500 * (j + 1) by omega] at hR5
          have HR5 := Lib.hid hR5
          have HO5 := Lib.hid hG5.rg
          have HI5 : Hid (∀ x, 0 ≤ x → x ≤ maxR → (mem s5 x ↔ mem (M.take (500 * (j + 1))) x)) := Lib.hid fun x a b => by
            rw [show 500 * (j + 1) = 500 * j + 500 by omega, List.take_add, mem_append, hG5.set.mem, HI.out x a b]
            exact ⟨fun h => h.2.2, fun h => ⟨a, b, h⟩⟩
          have HW5 := Lib.hid (HW.out.trans (hG5.below.mono HW.out.size))
          clear hu hG5 hR5 HR HO HI HW
          go_wp2_with fail
          go_roundg (n2 - 500 + 1)
          case measure => have := HG.out; have := HLT.out; omega
          case rel => exact ⟨j + 1, s5, B5, m5, d5, _, n2 - 500, f2 - 500, rfl, rfl, rfl, by have := HLT.out; omega, HO5, HR5, HI5, HW5⟩
        · have hii2 : ¬ (500 : Int) < (n2 : Int) := by omega
          have hu := refUnion_any HO.out HR.out (by omega)
          clear hlt
          go_wp2_with fail
          refine hu.mono ?_
          rintro e w5 ⟨B5, m5, d5, s5, rfl, hm5, hG5⟩
          have hb5 := HW.out.trans (hG5.below.mono HW.out.size)
          have hv := refUnion_any (HRS.out.below hb5) hG5.rg (by omega)
          have HB5 := Lib.hid (HBW.out.trans (hb5.mono HBW.out.size))
          have HI5 : Hid (∀ x, 0 ≤ x → x ≤ maxR → (mem s5 x ↔ mem M x)) := Lib.hid fun x a b => by
            rw [hG5.set.mem, HI.out x a b, ← mem_append, List.take_append_drop]
            exact ⟨fun h => h.2.2, fun h => ⟨a, b, h⟩⟩
          clear hu hG5 hb5
          go_wp2_with fail
          refine hv.mono ?_
          rintro e w6 ⟨B6, m6, d6, s6, rfl, hm6', hG6⟩
          have hfin : Got (FoldP l) w B6 m6 d6 s6 w6 := ⟨hG6.set.cong (fun x a b => by rw [HI5.out x a b]; exact refFold_end HGT.out.set HFM.out HCRF.out x a b), hG6.len, ownsRow_base hG6.own HB5.out.size, HB5.out.trans (hG6.below.mono HB5.out.size)⟩
          have HFIN := Lib.hid hfin
          clear hv hG6 hfin
          go_wp2_with fail
          go_ret
          exact ⟨_, _, _, _, rfl, HFIN.out⟩
end Go.Proofs.Ytoglnankopdohaa
