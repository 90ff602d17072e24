/- SetsLaws: the walk. -/
import Derived.Test.YtoglnankopdohaaLawS0
namespace Go.Proofs.Ytoglnankopdohaa
open Go.RowKit

theorem hasB_cong {l r : List Rg} {P : Int → Prop} (h : Mm l P) (h' : Mm r P) (x : Int) : hasB l x = hasB r x := by
  by_cases hx : 0 ≤ x ∧ x ≤ maxR
  · have e : hasB l x = true ↔ hasB r x = true := by rw [hasB_iff, hasB_iff, h x hx.1 hx.2, h' x hx.1 hx.2]
    rw [Bool.eq_iff_iff]; exact e
  · rw [Bool.eq_iff_iff, hasB_iff, hasB_iff]
    exact ⟨fun h => absurd h.1 hx, fun h => absurd h.1 hx⟩
theorem hasB_not {l r : List Rg} {P : Int → Prop} (h : Mm l (fun x => ¬ P x)) (h' : Mm r P) (x : Int) (h0 : 0 ≤ x) (h1 : x ≤ maxR) : hasB l x = !(hasB r x) := by
  have e1 : hasB l x = true ↔ ¬ P x := by rw [hasB_iff, h x h0 h1]; simp [h0, h1]
  have e2 : hasB r x = true ↔ P x := by rw [hasB_iff, h' x h0 h1]; simp [h0, h1]
  by_cases hp : P x
  · rw [e2.2 hp, Bool.eq_false_iff.2 (fun h => (e1.1 h) hp)]; rfl
  · rw [e1.2 hp, Bool.eq_false_iff.2 (fun h => hp (e2.1 h))]; rfl

/-- Sums over the runes. -/
def sumTo (f : Int → Int) : Nat → Int
  | 0 => 0
  | k + 1 => sumTo f k + f k
theorem sumTo_add (f g : Int → Int) (k : Nat) : sumTo (fun c => f c + g c) k = sumTo f k + sumTo g k := by
  induction k with
  | zero => rfl
  | succ k ih => simp only [sumTo, ih]; omega
theorem sumTo_cong {f g : Int → Int} (k : Nat) (h : ∀ c : Int, 0 ≤ c → c < k → f c = g c) : sumTo f k = sumTo g k := by
  induction k with
  | zero => rfl
  | succ k ih => simp only [sumTo]; rw [ih fun c h0 h1 => h c h0 (by omega), h k (by omega) (by omega)]
theorem sumTo_one (k : Nat) : sumTo (fun _ => 1) k = k := by
  induction k with
  | zero => rfl
  | succ k ih => simp only [sumTo, ih]; omega
theorem sumTo_zero (k : Nat) : sumTo (fun _ => 0) k = 0 := by
  induction k with
  | zero => rfl
  | succ k ih => simp only [sumTo, ih]; omega
theorem sumTo_run (a b : Int) (h0 : 0 ≤ a) (h1 : a ≤ b) (k : Nat) : sumTo (fun c => if a ≤ c ∧ c ≤ b then 1 else 0) k = max 0 (min (k : Int) (b + 1) - a) := by
  induction k with
  | zero => simp only [sumTo]; omega
  | succ k ih =>
    simp only [sumTo, ih]
    split <;> omega
theorem countR_sum {l : List Rg} (h : ∀ p ∈ l, 0 ≤ p.1 ∧ p.1 ≤ p.2 ∧ p.2 ≤ maxR) : countR l = sumTo (num l) 1114112 := by
  induction l with
  | nil => rw [show num [] = fun _ => 0 from rfl]; exact (sumTo_zero 1114112).symm
  | cons p r ih =>
    have hp := h p (.head _)
    rw [show num (p :: r) = fun c => (if p.1 ≤ c ∧ c ≤ p.2 then 1 else 0) + num r c from rfl, sumTo_add, sumTo_run _ _ hp.1 hp.2.1, countR, ih fun q hq => h q (.tail _ hq)]
    unfold maxR at hp
    omega
theorem count_not {l r : List Rg} {P : Int → Prop} (h : SetOf P l) (h' : SetOf (fun x => ¬ P x) r) : countR l + countR r = 1114112 := by
  rw [countR_sum h.canon.1, countR_sum h'.canon.1, ← sumTo_add, sumTo_cong (g := fun _ => 1), sumTo_one]
  · rfl
  · intro c h0 h1
    have h1' : c ≤ maxR := by unfold maxR; omega
    have q1 := num_canon h.canon c
    have q2 := num_canon h'.canon c
    have q3 := num_nonneg l c
    have q4 := num_nonneg r c
    have e1 : 0 < num l c ↔ P c := by rw [num_pos, so_mm h c h0 h1']
    have e2 : 0 < num r c ↔ ¬ P c := by rw [num_pos, so_mm h' c h0 h1']
    by_cases hp : P c
    · have := e1.2 hp
      have : ¬ 0 < num r c := fun h => e2.1 h hp
      omega
    · have := e2.2 hp
      have : ¬ 0 < num l c := fun h => hp (e1.1 h)
      omega

set_option maxRecDepth 20000 in
set_option maxHeartbeats 4000000 in
theorem setsLaws_walk {w : World} {Aa : Option Addr} {na ca : Nat} {la : List Rg} {Ab : Option Addr} {nb cb : Nat} {lb : List Rg} (ha : RgIn w Aa na ca la) (hb : RgIn w Ab nb cb lb) (x : Int)  :
    Calls Try.prog 16 #[.slice Aa na ca, .slice Ab nb cb, .int .i32 x] w fun e w' => e = .returned (.bool true) ∧ Below w.heap.size w w' := by
  have Ma := Mm.raw la
  have xa := ha.max
  have ya := ha.le
  have za := ha.len
  have Mb := Mm.raw lb
  have xb := hb.max
  have yb := hb.le
  have zb := hb.len
  have HB := Lib.hid (Below.refl w.heap.size w)
  have Ha := Lib.hid ha
  have Hb := Lib.hid hb
  clear ha hb
  by_cases hla : 2000 < na
  · skip
    go_enter Try.func16, Try.ntmps16
    go_wp2_with fail
    refine (head_any w).mono ?_
    rintro e w1 ⟨rfl, hb0⟩
    have hb := hb0
    replace HB := Lib.hid (Below.on HB.out hb)
    replace Ha := Lib.hid (Ha.out.below hb)
    replace Hb := Lib.hid (Hb.out.below hb)
    clear hb
    clear hb0
    have ql := long_any w1 Aa na ca (Nat.le_trans ya xa)
    rw [decide_eq_true hla] at ql
    go_wp2_with fail
    refine ql.mono ?_
    rintro e wl ⟨rfl, hwl⟩
    rw [hwl]
    clear ql hwl wl
    go_wp2_with fail
    go_ret
    exact ⟨rfl, HB.out⟩
  by_cases hlb : 2000 < nb
  · skip
    go_enter Try.func16, Try.ntmps16
    go_wp2_with fail
    refine (head_any w).mono ?_
    rintro e w1 ⟨rfl, hb0⟩
    have hb := hb0
    replace HB := Lib.hid (Below.on HB.out hb)
    replace Ha := Lib.hid (Ha.out.below hb)
    replace Hb := Lib.hid (Hb.out.below hb)
    clear hb
    clear hb0
    have ql := long_any w1 Aa na ca (Nat.le_trans ya xa)
    rw [decide_eq_false hla] at ql
    go_wp2_with fail
    refine ql.mono ?_
    rintro e wl ⟨rfl, hwl⟩
    rw [hwl]
    clear ql hwl wl
    have ql := long_any w1 Ab nb cb (Nat.le_trans yb xb)
    rw [decide_eq_true hlb] at ql
    go_wp2_with fail
    refine ql.mono ?_
    rintro e wl ⟨rfl, hwl⟩
    rw [hwl]
    clear ql hwl wl
    go_wp2_with fail
    go_ret
    exact ⟨rfl, HB.out⟩
  go_enter Try.func16, Try.ntmps16
  go_wp2_with fail
  refine (head_any w).mono ?_
  rintro e w1 ⟨rfl, hb0⟩
  have hb := hb0
  replace HB := Lib.hid (Below.on HB.out hb)
  replace Ha := Lib.hid (Ha.out.below hb)
  replace Hb := Lib.hid (Hb.out.below hb)
  clear hb
  clear hb0
  have ql := long_any w1 Aa na ca (Nat.le_trans ya xa)
  rw [decide_eq_false hla] at ql
  go_wp2_with fail
  refine ql.mono ?_
  rintro e wl ⟨rfl, hwl⟩
  rw [hwl]
  clear ql hwl wl
  have ql := long_any w1 Ab nb cb (Nat.le_trans yb xb)
  rw [decide_eq_false hlb] at ql
  go_wp2_with fail
  refine ql.mono ?_
  rintro e wl ⟨rfl, hwl⟩
  rw [hwl]
  clear ql hwl wl
  have ka : na ≤ 2000 := by omega
  have kb : nb ≤ 2000 := by omega
  go_wp2_with fail
  refine (norm_any Ha.out (by omega)).mono ?_
  rintro e w2 ⟨An, nn, cn, ln, rfl, gn⟩
  have hb := gn.below
  replace HB := Lib.hid (Below.on HB.out hb)
  replace Ha := Lib.hid (Ha.out.below hb)
  replace Hb := Lib.hid (Hb.out.below hb)
  clear hb
  have Hn := Lib.hid gn.rg
  have Sn := so_norm gn.set Ma
  have Mn := so_mm Sn
  have zn := gn.len
  have yn := gn.small
  clear gn
  go_wp2_with fail
  refine (not_any Ha.out (by omega)).mono ?_
  rintro e w3 ⟨Ap1, np1, cp1, lp1, rfl, gp1⟩
  have hb := gp1.below
  replace HB := Lib.hid (Below.on HB.out hb)
  replace Ha := Lib.hid (Ha.out.below hb)
  replace Hb := Lib.hid (Hb.out.below hb)
  replace Hn := Lib.hid (Hn.out.below hb)
  clear hb
  have Hp1 := Lib.hid gp1.rg
  have Sp1 := so_not gp1.set Ma
  have Mp1 := so_mm Sp1
  have zp1 := gp1.len
  have yp1 := gp1.small
  clear gp1
  go_wp2_with fail
  refine (not_any Hp1.out (by omega)).mono ?_
  rintro e w4 ⟨Ap2, np2, cp2, lp2, rfl, gp2⟩
  have hb := gp2.below
  replace HB := Lib.hid (Below.on HB.out hb)
  replace Ha := Lib.hid (Ha.out.below hb)
  replace Hb := Lib.hid (Hb.out.below hb)
  replace Hn := Lib.hid (Hn.out.below hb)
  replace Hp1 := Lib.hid (Hp1.out.below hb)
  clear hb
  have Hp2 := Lib.hid gp2.rg
  have Sp2 := so_not gp2.set Mp1
  have Mp2 := so_mm Sp2
  have zp2 := gp2.len
  have yp2 := gp2.small
  clear gp2
  have he : lp2 = ln := Sp2.unique Sn (fun c _ _ => by by_cases q0 : mem la c <;> simp [q0])
  go_wp2_with fail
  refine (same_yes Hp2.out Hn.out he).mono ?_
  rintro e w5 ⟨rfl, hb0⟩
  have hb := hb0
  replace HB := Lib.hid (Below.on HB.out hb)
  replace Ha := Lib.hid (Ha.out.below hb)
  replace Hb := Lib.hid (Hb.out.below hb)
  replace Hn := Lib.hid (Hn.out.below hb)
  replace Hp1 := Lib.hid (Hp1.out.below hb)
  replace Hp2 := Lib.hid (Hp2.out.below hb)
  clear hb
  clear hb0 he
  clear Hp1
  clear Hp2
  go_wp2_with fail
  refine (union_any Ha.out Hb.out (by omega) (by omega)).mono ?_
  rintro e w6 ⟨Aq1, nq1, cq1, lq1, rfl, gq1⟩
  have hb := gq1.below
  replace HB := Lib.hid (Below.on HB.out hb)
  replace Ha := Lib.hid (Ha.out.below hb)
  replace Hb := Lib.hid (Hb.out.below hb)
  replace Hn := Lib.hid (Hn.out.below hb)
  clear hb
  have Hq1 := Lib.hid gq1.rg
  have Sq1 := so_or gq1.set Ma Mb
  have Mq1 := so_mm Sq1
  have zq1 := gq1.len
  have yq1 := gq1.small
  clear gq1
  go_wp2_with fail
  refine (not_any Hq1.out (by omega)).mono ?_
  rintro e w7 ⟨Aq2, nq2, cq2, lq2, rfl, gq2⟩
  have hb := gq2.below
  replace HB := Lib.hid (Below.on HB.out hb)
  replace Ha := Lib.hid (Ha.out.below hb)
  replace Hb := Lib.hid (Hb.out.below hb)
  replace Hn := Lib.hid (Hn.out.below hb)
  replace Hq1 := Lib.hid (Hq1.out.below hb)
  clear hb
  have Hq2 := Lib.hid gq2.rg
  have Sq2 := so_not gq2.set Mq1
  have Mq2 := so_mm Sq2
  have zq2 := gq2.len
  have yq2 := gq2.small
  clear gq2
  go_wp2_with fail
  refine (not_any Ha.out (by omega)).mono ?_
  rintro e w8 ⟨Aq3, nq3, cq3, lq3, rfl, gq3⟩
  have hb := gq3.below
  replace HB := Lib.hid (Below.on HB.out hb)
  replace Ha := Lib.hid (Ha.out.below hb)
  replace Hb := Lib.hid (Hb.out.below hb)
  replace Hn := Lib.hid (Hn.out.below hb)
  replace Hq1 := Lib.hid (Hq1.out.below hb)
  replace Hq2 := Lib.hid (Hq2.out.below hb)
  clear hb
  have Hq3 := Lib.hid gq3.rg
  have Sq3 := so_not gq3.set Ma
  have Mq3 := so_mm Sq3
  have zq3 := gq3.len
  have yq3 := gq3.small
  clear gq3
  go_wp2_with fail
  refine (not_any Hb.out (by omega)).mono ?_
  rintro e w9 ⟨Aq4, nq4, cq4, lq4, rfl, gq4⟩
  have hb := gq4.below
  replace HB := Lib.hid (Below.on HB.out hb)
  replace Ha := Lib.hid (Ha.out.below hb)
  replace Hb := Lib.hid (Hb.out.below hb)
  replace Hn := Lib.hid (Hn.out.below hb)
  replace Hq1 := Lib.hid (Hq1.out.below hb)
  replace Hq2 := Lib.hid (Hq2.out.below hb)
  replace Hq3 := Lib.hid (Hq3.out.below hb)
  clear hb
  have Hq4 := Lib.hid gq4.rg
  have Sq4 := so_not gq4.set Mb
  have Mq4 := so_mm Sq4
  have zq4 := gq4.len
  have yq4 := gq4.small
  clear gq4
  go_wp2_with fail
  refine (meet_any Hq3.out Hq4.out (by omega) (by omega)).mono ?_
  rintro e w10 ⟨Aq5, nq5, cq5, lq5, rfl, gq5⟩
  have hb := gq5.below
  replace HB := Lib.hid (Below.on HB.out hb)
  replace Ha := Lib.hid (Ha.out.below hb)
  replace Hb := Lib.hid (Hb.out.below hb)
  replace Hn := Lib.hid (Hn.out.below hb)
  replace Hq1 := Lib.hid (Hq1.out.below hb)
  replace Hq2 := Lib.hid (Hq2.out.below hb)
  replace Hq3 := Lib.hid (Hq3.out.below hb)
  replace Hq4 := Lib.hid (Hq4.out.below hb)
  clear hb
  have Hq5 := Lib.hid gq5.rg
  have Sq5 := so_and gq5.set Mq3 Mq4
  have Mq5 := so_mm Sq5
  have zq5 := gq5.len
  have yq5 := gq5.small
  clear gq5
  have he : lq2 = lq5 := Sq2.unique Sq5 (fun c _ _ => by by_cases q0 : mem la c <;> by_cases q1 : mem lb c <;> simp [q0, q1])
  go_wp2_with fail
  refine (same_yes Hq2.out Hq5.out he).mono ?_
  rintro e w11 ⟨rfl, hb0⟩
  have hb := hb0
  replace HB := Lib.hid (Below.on HB.out hb)
  replace Ha := Lib.hid (Ha.out.below hb)
  replace Hb := Lib.hid (Hb.out.below hb)
  replace Hn := Lib.hid (Hn.out.below hb)
  replace Hq1 := Lib.hid (Hq1.out.below hb)
  replace Hq2 := Lib.hid (Hq2.out.below hb)
  replace Hq3 := Lib.hid (Hq3.out.below hb)
  replace Hq4 := Lib.hid (Hq4.out.below hb)
  replace Hq5 := Lib.hid (Hq5.out.below hb)
  clear hb
  clear hb0 he
  clear Hq1
  clear Hq2
  clear Hq3
  clear Hq4
  clear Hq5
  go_wp2_with fail
  refine (norm_any Hn.out (by omega)).mono ?_
  rintro e w12 ⟨Ar1, nr1, cr1, lr1, rfl, gr1⟩
  have hb := gr1.below
  replace HB := Lib.hid (Below.on HB.out hb)
  replace Ha := Lib.hid (Ha.out.below hb)
  replace Hb := Lib.hid (Hb.out.below hb)
  replace Hn := Lib.hid (Hn.out.below hb)
  clear hb
  have Hr1 := Lib.hid gr1.rg
  have Sr1 := so_norm gr1.set Mn
  have Mr1 := so_mm Sr1
  have zr1 := gr1.len
  have yr1 := gr1.small
  clear gr1
  have he : lr1 = ln := Sr1.unique Sn (fun c _ _ => by by_cases q0 : mem la c <;> simp [q0])
  go_wp2_with fail
  refine (same_yes Hr1.out Hn.out he).mono ?_
  rintro e w13 ⟨rfl, hb0⟩
  have hb := hb0
  replace HB := Lib.hid (Below.on HB.out hb)
  replace Ha := Lib.hid (Ha.out.below hb)
  replace Hb := Lib.hid (Hb.out.below hb)
  replace Hn := Lib.hid (Hn.out.below hb)
  replace Hr1 := Lib.hid (Hr1.out.below hb)
  clear hb
  clear hb0 he
  clear Hr1
  have hr := right_any Hn.out (by omega)
  have hrt : ∀ s, SetOf (mem ln) s → decide (ln = s) = true := fun s hs => decide_eq_true (Sn.unique (so_norm hs Mn) (fun _ _ _ => Iff.rfl))
  go_wp2_with fail
  refine hr.mono ?_
  rintro e w14 ⟨⟨s, hs, rfl⟩, hb⟩
  rw [hrt s hs]
  clear hr hrt hs
  replace HB := Lib.hid (Below.on HB.out hb)
  replace Ha := Lib.hid (Ha.out.below hb)
  replace Hb := Lib.hid (Hb.out.below hb)
  replace Hn := Lib.hid (Hn.out.below hb)
  clear hb
  obtain ⟨r, hr⟩ : ∃ r, hasB la x = r := ⟨_, rfl⟩
  have hh := has_any Hn.out x
  rw [hasB_cong Mn Ma x, hr] at hh
  go_wp2_with fail
  refine (hh).mono ?_
  rintro e w15 ⟨rfl, hb0⟩
  have hb := hb0
  replace HB := Lib.hid (Below.on HB.out hb)
  replace Ha := Lib.hid (Ha.out.below hb)
  replace Hb := Lib.hid (Hb.out.below hb)
  replace Hn := Lib.hid (Hn.out.below hb)
  clear hb
  clear hb0 hh
  have hh := has_any Ha.out x
  rw [hr] at hh
  go_wp2_with fail
  refine (hh).mono ?_
  rintro e w16 ⟨rfl, hb0⟩
  have hb := hb0
  replace HB := Lib.hid (Below.on HB.out hb)
  replace Ha := Lib.hid (Ha.out.below hb)
  replace Hb := Lib.hid (Hb.out.below hb)
  replace Hn := Lib.hid (Hn.out.below hb)
  clear hb
  clear hb0 hh
  clear Hn
  by_cases hx0 : x < 0
  · skip
    have hq := count_any Ha.out (by omega)
    go_wp2_with fail
    refine hq.mono ?_
    rintro e w17 ⟨⟨s1, hs1, rfl⟩, hb⟩
    clear hq
    replace HB := Lib.hid (Below.on HB.out hb)
    replace Ha := Lib.hid (Ha.out.below hb)
    replace Hb := Lib.hid (Hb.out.below hb)
    clear hb
    go_wp2_with fail
    refine (not_any Ha.out (by omega)).mono ?_
    rintro e w18 ⟨Amu, nmu, cmu, lmu, rfl, gmu⟩
    have hb := gmu.below
    replace HB := Lib.hid (Below.on HB.out hb)
    replace Ha := Lib.hid (Ha.out.below hb)
    replace Hb := Lib.hid (Hb.out.below hb)
    clear hb
    have Hmu := Lib.hid gmu.rg
    have Smu := so_not gmu.set Ma
    have Mmu := so_mm Smu
    have zmu := gmu.len
    have ymu := gmu.small
    clear gmu
    have hq := count_any Hmu.out (by omega)
    go_wp2_with fail
    refine hq.mono ?_
    rintro e w19 ⟨⟨s2, hs2, rfl⟩, hb⟩
    clear hq
    replace HB := Lib.hid (Below.on HB.out hb)
    replace Ha := Lib.hid (Ha.out.below hb)
    replace Hb := Lib.hid (Hb.out.below hb)
    replace Hmu := Lib.hid (Hmu.out.below hb)
    clear hb
    have hsum := count_not hs1 (so_norm hs2 Mmu)
    have p1 := countR_nonneg (l := s1) fun p hp => (hs1.canon.1 p hp).2.1
    have p2 := countR_nonneg (l := s2) fun p hp => (hs2.canon.1 p hp).2.1
    clear hs1 hs2
    generalize countR s1 = C1 at hsum p1 ⊢
    generalize countR s2 = C2 at hsum p2 ⊢
    have hw : IntKind.i64.wrap (C1 + C2) = C1 + C2 := IntWalk.i64_in _ (by omega)
    go_wp2_with fail
    go_ret
    exact ⟨rfl, HB.out⟩
  · skip
    by_cases hx1 : 1114111 < x
    · skip
      have hq := count_any Ha.out (by omega)
      go_wp2_with fail
      refine hq.mono ?_
      rintro e w17 ⟨⟨s1, hs1, rfl⟩, hb⟩
      clear hq
      replace HB := Lib.hid (Below.on HB.out hb)
      replace Ha := Lib.hid (Ha.out.below hb)
      replace Hb := Lib.hid (Hb.out.below hb)
      clear hb
      go_wp2_with fail
      refine (not_any Ha.out (by omega)).mono ?_
      rintro e w18 ⟨Amv, nmv, cmv, lmv, rfl, gmv⟩
      have hb := gmv.below
      replace HB := Lib.hid (Below.on HB.out hb)
      replace Ha := Lib.hid (Ha.out.below hb)
      replace Hb := Lib.hid (Hb.out.below hb)
      clear hb
      have Hmv := Lib.hid gmv.rg
      have Smv := so_not gmv.set Ma
      have Mmv := so_mm Smv
      have zmv := gmv.len
      have ymv := gmv.small
      clear gmv
      have hq := count_any Hmv.out (by omega)
      go_wp2_with fail
      refine hq.mono ?_
      rintro e w19 ⟨⟨s2, hs2, rfl⟩, hb⟩
      clear hq
      replace HB := Lib.hid (Below.on HB.out hb)
      replace Ha := Lib.hid (Ha.out.below hb)
      replace Hb := Lib.hid (Hb.out.below hb)
      replace Hmv := Lib.hid (Hmv.out.below hb)
      clear hb
      have hsum := count_not hs1 (so_norm hs2 Mmv)
      have p1 := countR_nonneg (l := s1) fun p hp => (hs1.canon.1 p hp).2.1
      have p2 := countR_nonneg (l := s2) fun p hp => (hs2.canon.1 p hp).2.1
      clear hs1 hs2
      generalize countR s1 = C1 at hsum p1 ⊢
      generalize countR s2 = C2 at hsum p2 ⊢
      have hw : IntKind.i64.wrap (C1 + C2) = C1 + C2 := IntWalk.i64_in _ (by omega)
      go_wp2_with fail
      go_ret
      exact ⟨rfl, HB.out⟩
    · skip
      go_wp2_with fail
      refine (not_any Ha.out (by omega)).mono ?_
      rintro e w17 ⟨Ann, nnn, cnn, lnn, rfl, gnn⟩
      have hb := gnn.below
      replace HB := Lib.hid (Below.on HB.out hb)
      replace Ha := Lib.hid (Ha.out.below hb)
      replace Hb := Lib.hid (Hb.out.below hb)
      clear hb
      have Hnn := Lib.hid gnn.rg
      have Snn := so_not gnn.set Ma
      have Mnn := so_mm Snn
      have znn := gnn.len
      have ynn := gnn.small
      clear gnn
      have hno := hasB_not Mnn Ma x (by omega) (by unfold maxR; omega)
      have hh := has_any Hnn.out x
      rw [hno, hr] at hh
      go_wp2_with fail
      refine (hh).mono ?_
      rintro e w18 ⟨rfl, hb0⟩
      have hb := hb0
      replace HB := Lib.hid (Below.on HB.out hb)
      replace Ha := Lib.hid (Ha.out.below hb)
      replace Hb := Lib.hid (Hb.out.below hb)
      replace Hnn := Lib.hid (Hnn.out.below hb)
      clear hb
      clear hb0 hh
      have hh := has_any Ha.out x
      rw [hr] at hh
      go_wp2_with fail
      refine (hh).mono ?_
      rintro e w19 ⟨rfl, hb0⟩
      have hb := hb0
      replace HB := Lib.hid (Below.on HB.out hb)
      replace Ha := Lib.hid (Ha.out.below hb)
      replace Hb := Lib.hid (Hb.out.below hb)
      replace Hnn := Lib.hid (Hnn.out.below hb)
      clear hb
      clear hb0 hh
      clear Hnn
      clear hno hr
      cases r
      · skip
        have hq := count_any Ha.out (by omega)
        go_wp2_with fail
        refine hq.mono ?_
        rintro e w20 ⟨⟨s1, hs1, rfl⟩, hb⟩
        clear hq
        replace HB := Lib.hid (Below.on HB.out hb)
        replace Ha := Lib.hid (Ha.out.below hb)
        replace Hb := Lib.hid (Hb.out.below hb)
        clear hb
        go_wp2_with fail
        refine (not_any Ha.out (by omega)).mono ?_
        rintro e w21 ⟨Amw, nmw, cmw, lmw, rfl, gmw⟩
        have hb := gmw.below
        replace HB := Lib.hid (Below.on HB.out hb)
        replace Ha := Lib.hid (Ha.out.below hb)
        replace Hb := Lib.hid (Hb.out.below hb)
        clear hb
        have Hmw := Lib.hid gmw.rg
        have Smw := so_not gmw.set Ma
        have Mmw := so_mm Smw
        have zmw := gmw.len
        have ymw := gmw.small
        clear gmw
        have hq := count_any Hmw.out (by omega)
        go_wp2_with fail
        refine hq.mono ?_
        rintro e w22 ⟨⟨s2, hs2, rfl⟩, hb⟩
        clear hq
        replace HB := Lib.hid (Below.on HB.out hb)
        replace Ha := Lib.hid (Ha.out.below hb)
        replace Hb := Lib.hid (Hb.out.below hb)
        replace Hmw := Lib.hid (Hmw.out.below hb)
        clear hb
        have hsum := count_not hs1 (so_norm hs2 Mmw)
        have p1 := countR_nonneg (l := s1) fun p hp => (hs1.canon.1 p hp).2.1
        have p2 := countR_nonneg (l := s2) fun p hp => (hs2.canon.1 p hp).2.1
        clear hs1 hs2
        generalize countR s1 = C1 at hsum p1 ⊢
        generalize countR s2 = C2 at hsum p2 ⊢
        have hw : IntKind.i64.wrap (C1 + C2) = C1 + C2 := IntWalk.i64_in _ (by omega)
        go_wp2_with fail
        go_ret
        exact ⟨rfl, HB.out⟩
      · skip
        have hq := count_any Ha.out (by omega)
        go_wp2_with fail
        refine hq.mono ?_
        rintro e w20 ⟨⟨s1, hs1, rfl⟩, hb⟩
        clear hq
        replace HB := Lib.hid (Below.on HB.out hb)
        replace Ha := Lib.hid (Ha.out.below hb)
        replace Hb := Lib.hid (Hb.out.below hb)
        clear hb
        go_wp2_with fail
        refine (not_any Ha.out (by omega)).mono ?_
        rintro e w21 ⟨Amz, nmz, cmz, lmz, rfl, gmz⟩
        have hb := gmz.below
        replace HB := Lib.hid (Below.on HB.out hb)
        replace Ha := Lib.hid (Ha.out.below hb)
        replace Hb := Lib.hid (Hb.out.below hb)
        clear hb
        have Hmz := Lib.hid gmz.rg
        have Smz := so_not gmz.set Ma
        have Mmz := so_mm Smz
        have zmz := gmz.len
        have ymz := gmz.small
        clear gmz
        have hq := count_any Hmz.out (by omega)
        go_wp2_with fail
        refine hq.mono ?_
        rintro e w22 ⟨⟨s2, hs2, rfl⟩, hb⟩
        clear hq
        replace HB := Lib.hid (Below.on HB.out hb)
        replace Ha := Lib.hid (Ha.out.below hb)
        replace Hb := Lib.hid (Hb.out.below hb)
        replace Hmz := Lib.hid (Hmz.out.below hb)
        clear hb
        have hsum := count_not hs1 (so_norm hs2 Mmz)
        have p1 := countR_nonneg (l := s1) fun p hp => (hs1.canon.1 p hp).2.1
        have p2 := countR_nonneg (l := s2) fun p hp => (hs2.canon.1 p hp).2.1
        clear hs1 hs2
        generalize countR s1 = C1 at hsum p1 ⊢
        generalize countR s2 = C2 at hsum p2 ⊢
        have hw : IntKind.i64.wrap (C1 + C2) = C1 + C2 := IntWalk.i64_in _ (by omega)
        go_wp2_with fail
        go_ret
        exact ⟨rfl, HB.out⟩

end Go.Proofs.Ytoglnankopdohaa
