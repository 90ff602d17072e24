/- Has, Right, Count: the walks. -/
import Derived.Test.YtbhcgjahlfpjoaaDoorOpS3
namespace Go.Proofs.YtbhcgjahlfpjoaaDoor
open Go.RowKit

/-! ### Has -/
set_option maxHeartbeats 1000000 in
theorem hasC_any (x : Rg) (c : Int) (b : Nat) (W : World) (hb : b < W.heap.size) (hc : W.cell? ⟨b, 0, none⟩ = some (.int .i32 c)) :
    Calls Tryd.prog 49 #[.agg (rgCell x).toArray, .pointer (some ⟨b, 0, none⟩)] W fun e w' => e = .returned (.bool (decide (x.1 ≤ c ∧ c ≤ x.2))) ∧ Below W.heap.size W w' := by
  have hB : Below W.heap.size W (W.alloc (.cells #[.int .i32 x.1, .int .i32 x.2] 66)) := (Below.refl _ _).alloc (Nat.le_refl _) _
  have hc1 := (hB.cell (p := ⟨b, 0, none⟩) hb).trans hc
  have hBk := Blk.new W 66 #[.int .i32 x.1, .int .i32 x.2]
  have x1 := hBk.cell 0
  have x2 := hBk.cell 1
  simp only [List.getElem?_toArray, List.getElem?_cons_zero, List.getElem?_cons_succ] at x1 x2
  clear hBk hc
  simp only [rgCell]
  by_cases h1 : x.1 ≤ c
  · by_cases h2 : c ≤ x.2
    · rw [decide_eq_true (And.intro h1 h2)]
      go_enter Tryd.func49, Tryd.ntmps49
      go_wp2
      all_goals (try go_quiet (fail))
      all_goals (try go_wp2)
      go_ret
      exact ⟨retB (by simp), by first | exact hB | exact hB.drewN⟩
    · rw [decide_eq_false (fun h => h2 h.2)]
      go_enter Tryd.func49, Tryd.ntmps49
      go_wp2
      all_goals (try go_quiet (fail))
      all_goals (try go_wp2)
      go_ret
      exact ⟨retB (by simp), by first | exact hB | exact hB.drewN⟩
  · rw [decide_eq_false (fun h => h1 h.1)]
    go_enter Tryd.func49, Tryd.ntmps49
    go_wp2
    all_goals (try go_quiet (fail))
    all_goals (try go_wp2)
    go_ret
    exact ⟨retB (by simp), by first | exact hB | exact hB.drewN⟩

set_option maxHeartbeats 2000000 in
theorem indexF_any {w : World} {A : Option Addr} {n c : Nat} {l : List Rg} (hA : RgIn w A n c l) (p : Rg → Bool) (gf : Nat) (lb : Array Value) (eg : ∀ args w, (callFunc gf args).run Tryd.prog w = .ok (.enter gf args) w)
    (hp : ∀ (W : World) (x : Rg), Below w.heap.size w W → Calls Tryd.prog gf (#[.agg (rgCell x).toArray] ++ lb) W fun e w' => e = .returned (.bool (p x)) ∧ Below W.heap.size W w') :
    Calls Tryd.prog 60 #[.slice A n c, .func (.func gf) #[] lb] w fun e w' => (∃ k : Int, e = .returned (.int .i64 k) ∧ decide (0 ≤ k) = l.any p) ∧ Below w.heap.size w w' := by
  have h1 := hA.max
  have h2 := hA.le
  unfold maxLen at h1
  have hnc : (n : Int) ≤ 9223372036854775807 := by omega
  have HA := Lib.hid hA
  have HPR := Lib.hid hp
  clear hA h1 h2 hp
  go_enter Tryd.func60, Tryd.ntmps60
  go_wp2_with fail
  go_loopg [5, 8] (n + 1) (fun q _ i wr => ∃ (j : Nat), q = n + 1 - j ∧ j ≤ n ∧ i = .int .i64 (j : Int) ∧ Hid (Below w.heap.size w wr ∧ ∀ k x, k < j → l[k]? = some x → p x = false))
  case atStart => exact ⟨0, rfl, by omega, rfl, Lib.hid ⟨Below.refl _ _, by intro k x hk; omega⟩⟩
  case round =>
    obtain ⟨j, hgk, hj, rfl, HR⟩ := hrel
    have HG := Lib.hid hgk
    clear hgk
    by_cases hlt : j < n
    · obtain ⟨b, o, x, rfl, hb, hx, hc, _⟩ := HA.out.at hlt
      obtain ⟨c1, c2⟩ := hc wr (.of_below HR.out.1 (Nat.le_refl _))
      have hi : (j : Int) < (n : Int) := by omega
      have hcall := HPR.out wr x HR.out.1
      have HX := Lib.hid hx
      have HLT := Lib.hid hlt
      clear hc hb hx hlt HA HPR
      simp only [rgCell] at hcall
      cases hq : p x with
      | true =>
        rw [hq] at hcall
        have hyes : l.any p = true := List.any_eq_true.2 ⟨x, List.mem_of_getElem? HX.out, hq⟩
        go_wp2_with (go_at_fn gf; refine hcall.mono ?_; rintro e w' ⟨rfl, hb'⟩)
        go_ret
        exact ⟨⟨_, rfl, by rw [hyes]; simp⟩, HR.out.1.trans (hb'.mono HR.out.1.size)⟩
      | false =>
        rw [hq] at hcall
        go_wp2_with (go_at_fn gf; refine hcall.mono ?_; rintro e w' ⟨rfl, hb'⟩)
        go_roundg (n + 1 - (j + 1))
        case measure => have := HG.out; have := HLT.out; omega
        case rel =>
          refine ⟨j + 1, rfl, by have := HLT.out; omega, by go_num, Lib.hid ⟨HR.out.1.trans (hb'.mono HR.out.1.size), fun k y hk hy => ?_⟩⟩
          rcases Nat.lt_succ_iff_lt_or_eq.1 hk with h | h
          · exact HR.out.2 k y h hy
          · subst h; rw [HX.out] at hy; injection hy with hy; subst hy; exact hq
    · have hi : ¬ (j : Int) < (n : Int) := by omega
      have hno : l.any p = false := by
        rw [List.any_eq_false]
        intro x hx
        obtain ⟨k, hk, rfl⟩ := List.getElem_of_mem hx
        rw [HR.out.2 k _ (by have := HA.out.len; omega) (List.getElem?_eq_getElem hk)]
        simp
      clear hlt
      go_wp2_with fail
      go_ret
      exact ⟨⟨_, rfl, by first | (rw [hno]; rfl) | decide⟩, HR.out.1⟩

set_option maxHeartbeats 1000000 in
theorem containsF_any {w : World} {A : Option Addr} {n c : Nat} {l : List Rg} (hA : RgIn w A n c l) (p : Rg → Bool) (gf : Nat) (lb : Array Value) (eg : ∀ args w, (callFunc gf args).run Tryd.prog w = .ok (.enter gf args) w)
    (hp : ∀ (W : World) (x : Rg), Below w.heap.size w W → Calls Tryd.prog gf (#[.agg (rgCell x).toArray] ++ lb) W fun e w' => e = .returned (.bool (p x)) ∧ Below W.heap.size W w') :
    Calls Tryd.prog 48 #[.slice A n c, .func (.func gf) #[] lb] w fun e w' => e = .returned (.bool (l.any p)) ∧ Below w.heap.size w w' := by
  have hcon := indexF_any hA p gf lb eg hp
  clear hA hp
  go_enter Tryd.func48, Tryd.ntmps48
  go_wp2_with (go_at_call 60; refine hcon.mono ?_; rintro e w' ⟨⟨k, rfl, hk⟩, hb'⟩)
  go_ret
  first
    | exact ⟨retB hk, hb'⟩
    | exact ⟨rfl, hb'⟩

set_option maxHeartbeats 2000000 in
theorem has_any {w : World} {A : Option Addr} {n c : Nat} {l : List Rg} (hA : RgIn w A n c l) (x : Int) :
    Calls Tryd.prog 29 #[.slice A n c, .int .i32 x] w fun e w' => e = .returned (.bool (hasB l x)) ∧ Below w.heap.size w w' := by
  have eg : ∀ args w, (callFunc 49 args).run Tryd.prog w = .ok (.enter 49 args) w := enters_of Tryd.func49 (by kernel_rfl) rfl
  have hB : Below w.heap.size w (w.alloc (.cells #[.int .i32 x] 21)) := (Below.refl _ _).alloc (Nat.le_refl _) _
  have hBk := Blk.new w 21 #[.int .i32 x]
  have x1 := hBk.cell 0
  simp only [List.getElem?_toArray, List.getElem?_cons_zero] at x1
  have hcon := containsF_any (hA.below hB) (fun p => decide (p.1 ≤ x ∧ x ≤ p.2)) 49 #[.pointer (some ⟨w.heap.size, 0, none⟩)] eg
    (fun W p hb => hasC_any p x w.heap.size W (Nat.lt_of_lt_of_le (by simp) hb.size) ((hb.cell (p := ⟨w.heap.size, 0, none⟩) (by simp)).trans x1))
  clear hA hBk
  by_cases hx : 0 ≤ x ∧ x ≤ 1114111
  · have hv : hasB l x = l.any fun p => decide (p.1 ≤ x ∧ x ≤ p.2) := by unfold hasB maxR; rw [decide_eq_true hx]; rfl
    rw [hv]
    obtain ⟨hx0, hx1⟩ := hx
    clear hv
    generalize (l.any fun p => decide (p.1 ≤ x ∧ x ≤ p.2)) = r at hcon ⊢
    go_enter Tryd.func29, Tryd.ntmps29
    go_wp2_with (go_at_call 48; refine hcon.mono ?_; rintro e w' ⟨rfl, hb'⟩)
    go_ret
    exact ⟨rfl, hB.trans (hb'.mono hB.size)⟩
  · have hv : hasB l x = false := by unfold hasB maxR; rw [decide_eq_false hx]; rfl
    rw [hv]
    clear hv hcon
    by_cases hx0 : 0 ≤ x
    · have hx1 : ¬ x ≤ 1114111 := fun h => hx ⟨hx0, h⟩
      clear hx
      go_enter Tryd.func29, Tryd.ntmps29
      go_wp2_with fail
      go_ret
      exact ⟨rfl, hB⟩
    · clear hx
      go_enter Tryd.func29, Tryd.ntmps29
      go_wp2_with fail
      go_ret
      exact ⟨rfl, hB⟩

/-! ### Right -/
set_option maxHeartbeats 1000000 in
theorem slEq_any {w : World} {A B : Option Addr} {n c m d : Nat} {l r : List Rg} (hA : RgIn w A n c l) (hB : RgIn w B m d r) :
    Calls Tryd.prog 64 #[.slice A n c, .slice B m d] w fun e w' => e = .returned (.bool (decide (l = r))) ∧ ∃ q, w' = w.drewN q := by
  have h1 := hA.max
  have h2 := hA.le
  have h3 := hB.max
  have h4 := hB.le
  unfold maxLen at h1 h3
  have hnc : (n : Int) ≤ 9223372036854775807 := by omega
  have hmc : (m : Int) ≤ 9223372036854775807 := by omega
  by_cases hnm : n = m
  · subst hnm
    have HA := Lib.hid hA
    have HB := Lib.hid hB
    clear hA hB h1 h2 h3 h4 hmc
    go_enter Tryd.func64, Tryd.ntmps64
    go_wp2_with fail
    go_loopg [13] (n + 1) (fun q i wr => ∃ (j : Nat), q = n + 1 - j ∧ j ≤ n ∧ i = .int .i64 (j : Int) ∧ Hid ((∃ d, wr = w.drewN d) ∧ ∀ k, k < j → l[k]? = r[k]?))
    case atStart => exact ⟨0, rfl, by omega, rfl, Lib.hid ⟨⟨0, rfl⟩, by intro k hk; omega⟩⟩
    case round =>
      obtain ⟨j, hgk, hj, rfl, HR⟩ := hrel
      have HG := Lib.hid hgk
      clear hgk
      by_cases hlt : j < n
      · obtain ⟨b, o, p, rfl, hb, hp, hc, _⟩ := HA.out.at hlt
        obtain ⟨b', o', p', rfl, hb', hp', hc', _⟩ := HB.out.at hlt
        obtain ⟨c1, c2⟩ := hc wr (by obtain ⟨d, rfl⟩ := HR.out.1; exact (Same.refl _ _ _).drewN d)
        obtain ⟨c3, c4⟩ := hc' wr (by obtain ⟨d, rfl⟩ := HR.out.1; exact (Same.refl _ _ _).drewN d)
        have hne := fun W => eqInRg p p' W
        have hgd := fun a b W => guardRg .neq a b p p' W
        simp only [rgCell] at hgd
        have hi : (j : Int) < (n : Int) := by omega
        have HP := Lib.hid hp
        have HP' := Lib.hid hp'
        have HLT := Lib.hid hlt
        clear hc hc' hb hb' hp hp' hlt HA HB
        go_wp2_with fail
        by_cases heq : p = p'
        · subst heq
          go_quiet (fail)
          go_wp2_with fail
          go_roundg (n + 1 - (j + 1))
          case measure => have := HG.out; have := HLT.out; omega
          case rel =>
            refine ⟨j + 1, rfl, by have := HLT.out; omega, by go_num, ?_⟩
            obtain ⟨⟨d, rfl⟩, h⟩ := HR.out
            refine Lib.hid ⟨⟨_, World.drewN_drewN _ _ _⟩, fun k hk => ?_⟩
            rcases Nat.lt_succ_iff_lt_or_eq.1 hk with h1 | h1
            · exact h k h1
            · subst h1; rw [HP.out, HP'.out]
        · have hd : decide (p = p') = false := decide_eq_false heq
          have HQ := Lib.hid heq
          clear heq
          go_quiet (fail)
          go_wp2_with fail
          go_ret
          refine ⟨retB ?_, ?_⟩
          · symm
            apply decide_eq_false
            intro h
            have h1 := HP.out
            rw [h, HP'.out] at h1
            injection h1 with h1
            exact HQ.out h1.symm
          · obtain ⟨⟨d, rfl⟩, h⟩ := HR.out
            exact ⟨_, World.drewN_drewN _ _ _⟩
      · have hi : (n : Int) ≤ (j : Int) := by omega
        go_wp2_with fail
        go_ret
        refine ⟨retB ?_, HR.out.1⟩
        symm
        apply decide_eq_true
        apply List.ext_getElem?
        intro k
        have h1 := HA.out.len
        have h2 := HB.out.len
        rcases Nat.lt_or_ge k j with h | h
        · exact HR.out.2 k h
        · rw [List.getElem?_eq_none (by omega), List.getElem?_eq_none (by omega)]
  · have hne : ((n : Int) == (m : Int)) = false := by rw [beq_eq_false_iff_ne]; omega
    have hlr : decide (l = r) = false := decide_eq_false fun h => hnm (by rw [← hA.len, ← hB.len, h])
    rw [hlr]
    clear hlr hA hB
    go_enter Tryd.func64, Tryd.ntmps64
    go_wp2_with fail
    go_ret
    exact ⟨rfl, 0, rfl⟩

set_option maxHeartbeats 1000000 in
theorem right_any {w : World} {A : Option Addr} {n c : Nat} {l : List Rg} (hA : RgIn w A n c l) (hn : n ≤ 1000000) :
    Calls Tryd.prog 56 #[.slice A n c] w fun e w' => (∃ s, SetOf (mem l) s ∧ e = .returned (.bool (decide (l = s)))) ∧ Below w.heap.size w w' := by
  have h1 := norm_any hA hn
  have h2 := fun (w1 : World) (B' : Option Addr) (m' d' : Nat) (s : List Rg) (hg : Got (mem l) w B' m' d' s w1) => slEq_any (hA.below hg.below) hg.rg
  clear hA
  go_enter Tryd.func56, Tryd.ntmps56
  go_wp2_with (first | (go_at_call 65; refine h1.mono ?_; rintro e w1 ⟨B', m', d', s, rfl, hg⟩) | (go_at_call 64; refine (h2 w1 B' m' d' s hg).mono ?_; rintro e w2 ⟨rfl, q, rfl⟩))
  go_ret
  exact ⟨⟨s, hg.set, rfl⟩, hg.below.drewN⟩

/-! ### Count -/
def countR : List Rg → Int
  | [] => 0
  | p :: r => (p.2 - p.1 + 1) + countR r
theorem countR_append (a b : List Rg) : countR (a ++ b) = countR a + countR b := by
  induction a with
  | nil => simp [countR]
  | cons p r ih => simp only [List.cons_append, countR, ih]; omega
theorem countR_nonneg : ∀ {l : List Rg}, (∀ p ∈ l, p.1 ≤ p.2) → 0 ≤ countR l
  | [], _ => Int.le_refl _
  | p :: r, h => by
    have h1 := h p (.head _)
    have h2 := countR_nonneg (l := r) fun q hq => h q (.tail _ hq)
    simp only [countR]; omega
theorem countR_le' : ∀ (l : List Rg) (f : Int), Canon l → (∀ p ∈ l, f ≤ p.1) → f ≤ maxR + 2 → countR l ≤ maxR + 2 - f
  | [], f, _, _, h => by simp only [countR]; omega
  | p :: r, f, hc, hf, h => by
    obtain ⟨h1, h2, h3⟩ := canon_cons.1 hc
    have := countR_le' r (p.2 + 2) h3 h2 (by omega)
    have := hf p (.head _)
    simp only [countR]
    omega
theorem countR_take {l : List Rg} (h : Canon l) (k : Nat) : 0 ≤ countR (l.take k) ∧ countR (l.take k) ≤ 1114113 := by
  have h1 := countR_le' l 0 h (fun p hp => (h.1 p hp).1) (by decide)
  have h2 : countR l = countR (l.take k) + countR (l.drop k) := by rw [← countR_append, List.take_append_drop]
  have h3 := countR_nonneg (l := l.take k) fun p hp => (h.1 p (List.take_subset _ _ hp)).2.1
  have h4 := countR_nonneg (l := l.drop k) fun p hp => (h.1 p (List.drop_subset _ _ hp)).2.1
  unfold maxR at h1
  omega

end Go.Proofs.YtbhcgjahlfpjoaaDoor
