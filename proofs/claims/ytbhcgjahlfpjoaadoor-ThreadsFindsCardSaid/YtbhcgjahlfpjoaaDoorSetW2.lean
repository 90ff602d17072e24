/- The reference's readers of lists: Has, Right. -/
import Derived.Test.YtbhcgjahlfpjoaaDoorSetW1
namespace Go.Proofs.YtbhcgjahlfpjoaaDoor
open Go.RowKit

def hasB (l : List Rg) (c : Int) : Bool := decide (0 ≤ c ∧ c ≤ maxR) && l.any fun p => decide (p.1 ≤ c ∧ c ≤ p.2)
theorem hasB_iff (l : List Rg) (c : Int) : hasB l c = true ↔ (0 ≤ c ∧ c ≤ maxR) ∧ mem l c := by
  unfold hasB mem
  rw [Bool.and_eq_true, decide_eq_true_iff, List.any_eq_true]
  simp
theorem hasB_no {l : List Rg} {c : Int} (h : ∀ k, k < l.length → ∀ p, l[k]? = some p → ¬ (p.1 ≤ c ∧ c ≤ p.2)) : hasB l c = false := by
  rw [Bool.eq_false_iff]
  intro h1
  obtain ⟨_, p, hp, h2⟩ := (hasB_iff l c).1 h1
  obtain ⟨k, hk, rfl⟩ := List.getElem_of_mem hp
  exact h k hk _ (List.getElem?_eq_getElem hk) h2

set_option maxHeartbeats 1000000 in
theorem refHas_any {w : World} {A : Option Addr} {n c : Nat} {l : List Rg} (hA : RgIn w A n c l) (x : Int) :
    Calls Tryd.prog 61 #[.slice A n c, .int .i32 x] w fun e w' => e = .returned (.bool (hasB l x)) ∧ w = w' := by
  have h1 := hA.max
  have h2 := hA.le
  unfold maxLen at h1
  have hnc : (n : Int) ≤ 9223372036854775807 := by omega
  by_cases hx : 0 ≤ x ∧ x ≤ 1114111
  · have HA := Lib.hid hA
    obtain ⟨hx0, hx1⟩ := hx
    clear hA h1 h2
    go_enter Tryd.func61, Tryd.ntmps61
    go_wp2_with fail
    go_loopg [5] (n + 1) (fun q i wr => ∃ (j : Nat), q = n + 1 - j ∧ j ≤ n ∧ i = .int .i64 (j : Int) ∧ w = wr ∧ Hid (∀ k, k < j → ∀ p, l[k]? = some p → ¬ (p.1 ≤ x ∧ x ≤ p.2)))
    case atStart => exact ⟨0, rfl, by omega, rfl, rfl, Lib.hid (by intro k hk; omega)⟩
    case round =>
      obtain ⟨j, hgk, hj, rfl, rfl, HR⟩ := hrel
      have HG := Lib.hid hgk
      clear hgk
      by_cases hlt : j < n
      · obtain ⟨b, o, p, rfl, hb, hp, hc, _⟩ := HA.out.at hlt
        obtain ⟨c1, c2⟩ := hc w (Same.refl _ _ _)
        have hi : (j : Int) < (n : Int) := by omega
        have HP := Lib.hid hp
        have HLT := Lib.hid hlt
        clear hc hb hp hlt
        have hnext : ¬ (p.1 ≤ x ∧ x ≤ p.2) → Hid (∀ k, k < j + 1 → ∀ p, l[k]? = some p → ¬ (p.1 ≤ x ∧ x ≤ p.2)) := fun hno => Lib.hid fun k hk r hr => by
          rcases Nat.lt_succ_iff_lt_or_eq.1 hk with h | h
          · exact HR.out k h r hr
          · subst h; rw [HP.out] at hr; injection hr with hr; subst hr; exact hno
        by_cases hlo : p.1 ≤ x
        · by_cases hhi : x ≤ p.2
          · have hyes : hasB l x = true := (hasB_iff _ _).2 ⟨⟨hx0, hx1⟩, p, List.mem_of_getElem? HP.out, hlo, hhi⟩
            have HY := Lib.hid hyes
            clear hyes hnext HA HR
            go_wp2_with fail
            go_ret
            exact ⟨retB HY.out.symm, rfl⟩
          · have HN := hnext (by omega)
            clear hnext HA
            go_wp2_with fail
            go_roundg (n + 1 - (j + 1))
            case measure => have := HG.out; have := HLT.out; omega
            case rel => exact ⟨j + 1, rfl, by have := HLT.out; omega, by go_num, rfl, HN⟩
        · have HN := hnext (by omega)
          clear hnext HA
          go_wp2_with fail
          go_roundg (n + 1 - (j + 1))
          case measure => have := HG.out; have := HLT.out; omega
          case rel => exact ⟨j + 1, rfl, by have := HLT.out; omega, by go_num, rfl, HN⟩
      · have hi : (n : Int) ≤ (j : Int) := by omega
        have hno : hasB l x = false := hasB_no fun k hk => HR.out k (by have := HA.out.len; omega)
        have HY := Lib.hid hno
        clear hno
        go_wp2_with fail
        go_ret
        exact ⟨retB HY.out.symm, rfl⟩
  · have hno : hasB l x = false := by
      unfold hasB maxR
      rw [decide_eq_false hx]; rfl
    rw [hno]
    have HA := Lib.hid hA
    have hx2 : x < 0 ∨ (0 ≤ x ∧ 1114111 < x) := by omega
    clear hA h1 h2 hx hno
    rcases hx2 with hx | ⟨hx0, hx1⟩
    all_goals
      go_enter Tryd.func61, Tryd.ntmps61
      go_wp2_with fail
      go_loopg [5] 1 (fun q i wr => i = .int .i64 0 ∧ w = wr)
      case atStart => exact ⟨rfl, rfl⟩
      case round =>
        obtain ⟨rfl, rfl⟩ := hrel
        by_cases h0 : 0 < n
        · have hi : (0 : Int) < (n : Int) := by omega
          go_wp2_with fail
          go_ret
          exact ⟨rfl, rfl⟩
        · have hi : (n : Int) ≤ 0 := by omega
          go_wp2_with fail
          go_ret
          exact ⟨rfl, rfl⟩
end Go.Proofs.YtbhcgjahlfpjoaaDoor
