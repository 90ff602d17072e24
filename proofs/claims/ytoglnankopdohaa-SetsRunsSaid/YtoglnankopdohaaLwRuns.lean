/- SetsRuns: the walk. -/
import Derived.Test.YtoglnankopdohaaLawS0
import Derived.Deep.Cut
namespace Go.Proofs.Ytoglnankopdohaa
open Go.RowKit

theorem one_set (lo hi : Int) (h : max lo 0 ≤ min hi maxR) : SetOf (mem [(lo, hi)]) [(max lo 0, min hi maxR)] :=
  ⟨canon_append (l := []) canon_nil ⟨by dsimp only; omega, h, by dsimp only; omega⟩ (fun _ h => by cases h), fun c => by rw [mem_one, mem_one]; dsimp only; constructor <;> intro h <;> omega⟩
theorem none_set (lo hi : Int) (h : ¬ max lo 0 ≤ min hi maxR) : SetOf (mem [(lo, hi)]) [] :=
  ⟨canon_nil, fun c => by rw [mem_one]; dsimp only; constructor <;> intro h' <;> first | exact absurd h' (mem_nil c) | omega⟩
theorem one_has (lo hi c : Int) : hasB [(lo, hi)] c = decide (max lo 0 ≤ c ∧ c ≤ min hi maxR) := by
  rw [Bool.eq_iff_iff, hasB_iff, mem_one, decide_eq_true_iff]
  dsimp only
  omega

set_option maxRecDepth 20000 in
set_option maxHeartbeats 4000000 in
theorem setsRuns_walk {w : World} (lo hi c : Int) (hlo : -2147483648 ≤ lo ∧ lo ≤ 2147483647) (hhi : -2147483648 ≤ hi ∧ hi ≤ 2147483647) :
    Calls Try.prog 15 #[.int .i32 lo, .int .i32 hi, .int .i32 c] w fun e w' => e = .returned (.bool true) ∧ Below w.heap.size w w' := by
  go_enter Try.func15, Try.ntmps15
  go_wp2_with fail
  refine (head_any w).mono ?_
  rintro e w1 ⟨rfl, hb0⟩
  have hb1 : Below w1.heap.size w1 (w1.alloc (.cells #[.int .i32 lo, .int .i32 hi] 28)) := (Below.refl _ _).alloc (Nat.le_refl _) _
  have hL : RgIn (w1.alloc (.cells #[.int .i32 lo, .int .i32 hi] 28)) (some ⟨w1.heap.size, 0, none⟩) 1 1 [(lo, hi)] :=
    ⟨Rd.new w1 [.int .i32 lo, .int .i32 hi] _ _ (Nat.zero_le _) (by simp), rfl, Nat.le_refl _, by unfold maxLen; omega, (fun h => by cases h), fun p hp => by
      obtain rfl := List.mem_singleton.1 hp
      exact ⟨hlo, hhi⟩⟩
  have h2 := norm_any hL (by omega)
  have HB := Lib.hid (Below.on hb0 hb1)
  clear hb0 hb1
  go_wp2_with fail
  refine h2.mono ?_
  rintro e w2 ⟨B, m, d, s, rfl, g⟩
  replace HB := Lib.hid (Below.on HB.out g.below)
  have HL := Lib.hid (hL.below g.below)
  have HS := Lib.hid g.set
  have HG := Lib.hid g.rg
  have hms : s.length = m := g.len
  clear h2 hL g
  have h3 := count_any HL.out (by omega)
  go_upto_region 6 with (fail)
  by_cases hab : max lo 0 ≤ min hi 1114111
  · have hsu := one_set lo hi hab
    have hs := HS.out.unique hsu (fun _ _ _ => Iff.rfl)
    have hcu : ∀ s', SetOf (mem [(lo, hi)]) s' → countR s' = min hi 1114111 - max lo 0 + 1 := fun s' h' => by rw [h'.unique hsu (fun _ _ _ => Iff.rfl)]; simp [countR, maxR]
    subst hs
    obtain rfl : 1 = m := hms
    obtain ⟨b, o, p, rfl, hb, hp, hc, _⟩ := HG.out.at (k := 0) (Nat.zero_lt_one)
    simp only [List.getElem?_cons_zero, Option.some.injEq] at hp
    subst hp
    obtain ⟨c1, c2⟩ := hc w2 (Same.refl _ _ _)
    simp only [Nat.zero_mul, Nat.add_zero, Nat.zero_add, maxR] at c1 c2
    have hxf : 0 ≤ max lo 0 ∧ max lo 0 ≤ 2147483647 ∧ -2147483648 ≤ min hi 1114111 ∧ min hi 1114111 ≤ 1114111 := by omega
    have hone := one_has lo hi c
    unfold maxR at hone
    have h4 := fun w3 (hb : Below w2.heap.size w2 w3) => has_any (HL.out.below hb) c
    rw [hone] at h4
    have HC := Lib.hid hcu
    clear hcu hsu hone hc HS HG hb
    generalize max lo 0 = xa at hab c1 hxf h4 HC ⊢
    generalize min hi 1114111 = xb at hab c2 hxf h4 HC ⊢
    have hw1 : IntKind.i32.wrap (xb - xa) = xb - xa := IntWalk.i32_in _ (by omega)
    have hw2 : IntKind.i64.wrap (xb - xa) = xb - xa := IntWalk.i64_in _ (by omega)
    have hw3 : IntKind.i64.wrap (xb - xa + 1) = xb - xa + 1 := IntWalk.i64_in _ (by omega)
    have hgt : ¬ xb < xa := by omega
    by_cases ha : xa ≤ c
    · by_cases hb : c ≤ xb
      · rw [decide_eq_true (And.intro ha hb)] at h4
        go_wp2_with fail
        refine h3.mono ?_
        rintro e w3 ⟨⟨s1, hs1, rfl⟩, hb3⟩
        rw [HC.out s1 hs1]
        have h5 := h4 w3 hb3
        replace HB := Lib.hid (Below.on HB.out hb3)
        clear h3 h4 hb3 hs1
        go_wp2_with fail
        refine h5.mono ?_
        rintro e w4 ⟨rfl, hb4⟩
        replace HB := Lib.hid (Below.on HB.out hb4)
        clear h5 hb4
        go_wp2_with fail
        go_ret
        exact ⟨rfl, HB.out⟩
      · rw [decide_eq_false (fun h => hb h.2)] at h4
        go_wp2_with fail
        refine h3.mono ?_
        rintro e w3 ⟨⟨s1, hs1, rfl⟩, hb3⟩
        rw [HC.out s1 hs1]
        have h5 := h4 w3 hb3
        replace HB := Lib.hid (Below.on HB.out hb3)
        clear h3 h4 hb3 hs1
        go_wp2_with fail
        refine h5.mono ?_
        rintro e w4 ⟨rfl, hb4⟩
        replace HB := Lib.hid (Below.on HB.out hb4)
        clear h5 hb4
        go_wp2_with fail
        go_ret
        exact ⟨retB (by simp; omega), HB.out⟩
    · rw [decide_eq_false (fun h => ha h.1)] at h4
      go_wp2_with fail
      refine h3.mono ?_
      rintro e w3 ⟨⟨s1, hs1, rfl⟩, hb3⟩
      rw [HC.out s1 hs1]
      have h5 := h4 w3 hb3
      replace HB := Lib.hid (Below.on HB.out hb3)
      clear h3 h4 hb3 hs1
      go_wp2_with fail
      refine h5.mono ?_
      rintro e w4 ⟨rfl, hb4⟩
      replace HB := Lib.hid (Below.on HB.out hb4)
      clear h5 hb4
      go_wp2_with fail
      go_ret
      exact ⟨rfl, HB.out⟩
  · have hsu := none_set lo hi hab
    have hs := HS.out.unique hsu (fun _ _ _ => Iff.rfl)
    have hcu : ∀ s', SetOf (mem [(lo, hi)]) s' → countR s' = 0 := fun s' h' => by rw [h'.unique hsu (fun _ _ _ => Iff.rfl)]; rfl
    subst hs
    obtain rfl : 0 = m := hms
    have hone := one_has lo hi c
    unfold maxR at hone
    rw [decide_eq_false (by omega)] at hone
    have h4 := fun w3 (hb : Below w2.heap.size w2 w3) => has_any (HL.out.below hb) c
    rw [hone] at h4
    have HC := Lib.hid hcu
    clear hcu hsu hone HS HG
    generalize max lo 0 = xa at hab ⊢
    generalize min hi 1114111 = xb at hab ⊢
    have hgt : xb < xa := by omega
    go_wp2_with fail
    refine h3.mono ?_
    rintro e w3 ⟨⟨s1, hs1, rfl⟩, hb3⟩
    rw [HC.out s1 hs1]
    have h5 := h4 w3 hb3
    replace HB := Lib.hid (Below.on HB.out hb3)
    clear h3 h4 hb3 hs1
    go_wp2_with fail
    refine h5.mono ?_
    rintro e w4 ⟨rfl, hb4⟩
    replace HB := Lib.hid (Below.on HB.out hb4)
    clear h5 hb4
    go_wp2_with fail
    go_ret
    exact ⟨rfl, HB.out⟩
end Go.Proofs.Ytoglnankopdohaa
