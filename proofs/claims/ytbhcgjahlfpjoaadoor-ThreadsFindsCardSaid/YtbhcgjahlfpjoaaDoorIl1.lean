/- Lists of ints in memory. -/
import Derived.Test.YtbhcgjahlfpjoaaDoorPg1
import Derived.Laws.Cover3
namespace Go.Proofs.YtbhcgjahlfpjoaaDoor
open Go.RowKit

def i64s (l : List Int) : List Value := l.map (Value.int .i64)
theorem i64s_at {l : List Int} {k : Nat} {x : Int} (h : l[k]? = some x) : (i64s l)[k]? = some (.int .i64 x) := by simp [i64s, h]
theorem i64s_length (l : List Int) : (i64s l).length = l.length := by simp [i64s]
theorem i64s_append (a b : List Int) : i64s (a ++ b) = i64s a ++ i64s b := by simp [i64s]
theorem i64s_one (l : List Int) : ∀ u ∈ i64s l, u.oneCell' = true := by
  intro u hu
  obtain ⟨x, _, rfl⟩ := List.mem_map.1 hu
  rfl
/-- A list of ints that lies in memory. -/
structure IlIn (w : World) (A : Option Addr) (n c : Nat) (l : List Int) : Prop where
  rd : Rd w 0 w.heap.size A (i64s l)
  len : l.length = n
  le : n ≤ c
  max : c ≤ maxLen
  nil : A = none → n = 0
theorem IlIn.below {w w' : World} {A : Option Addr} {n c : Nat} {l : List Int} (h : IlIn w A n c l) (hb : Below w.heap.size w w') : IlIn w' A n c l :=
  ⟨(h.rd.same (.of_below hb (Nat.le_refl _))).mono (Nat.le_refl _) hb.size, h.len, h.le, h.max, h.nil⟩
theorem IlIn.drewN {w : World} {A : Option Addr} {n c : Nat} {l : List Int} (h : IlIn w A n c l) (d : Nat) : IlIn (w.drewN d) A n c l := h.below (Below.refl _ _).drewN
theorem IlIn.empty (w : World) : IlIn w none 0 0 [] := ⟨Rd.nil, rfl, Nat.le_refl _, Nat.zero_le _, fun _ => rfl⟩
theorem IlIn.of_own {w : World} {base : Nat} {ty : TypeId} {B : Option Addr} {m d : Nat} {s : List Int} (h : w.ownsRow base ty 1 (.slice B m d) m (i64s s)) (hs : s.length = m) : IlIn w B m d s := by
  obtain ⟨B', d', he, h1, h2⟩ := own_form h
  injection he with e1 _ e2
  subst e1; subst e2
  have hR : Rd w 0 w.heap.size B (i64s s) := Rd.of_own h (Nat.zero_le _) (Nat.le_refl _)
  refine ⟨hR, hs, h1, h2, fun hB => ?_⟩
  rcases Nat.eq_zero_or_pos m with h0 | h0
  · exact h0
  · obtain ⟨_, _, h3, _⟩ := hR (by rw [i64s_length]; omega)
    rw [h3] at hB; cases hB
theorem IlIn.at {w : World} {A : Option Addr} {n c : Nat} {l : List Int} (h : IlIn w A n c l) {k : Nat} (hk : k < n) :
    ∃ b o x, A = some ⟨b, o, none⟩ ∧ b < w.heap.size ∧ l[k]? = some x ∧ (∀ W, Same 0 w.heap.size w W → W.cell? ⟨b, o + k, none⟩ = some (.int .i64 x)) := by
  obtain ⟨b, o, hA, _, hb, hc⟩ := h.rd (by rw [i64s_length, h.len]; omega)
  have hk' : k < l.length := by rw [h.len]; exact hk
  have hp : l[k]? = some l[k] := List.getElem?_eq_getElem hk'
  exact ⟨b, o, l[k], hA, hb, hp, fun W hW => (hW.cell (p := ⟨b, o + k, none⟩) (Nat.zero_le _) hb).trans (hc _ _ (i64s_at hp))⟩

set_option maxHeartbeats 1000000 in
theorem indexAt_any {w : World} {A : Option Addr} {n c : Nat} {l : List Int} (hA : IlIn w A n c l) (x : Int) :
    Calls Tryd.prog 66 #[.slice A n c, .int .i64 x] w fun e w' => ∃ r : Int, e = .returned (.int .i64 r) ∧ (0 ≤ r ↔ x ∈ l) ∧ w = w' := by
  have h1 := hA.max
  have h2 := hA.le
  unfold maxLen at h1
  have hnc : (n : Int) ≤ 9223372036854775807 := by omega
  have HA := Lib.hid hA
  clear hA h1 h2
  go_enter Tryd.func66, Tryd.ntmps66
  go_wp2_with fail
  go_loopg [8] (n + 1) (fun q i wr => ∃ (j : Nat), q = n + 1 - j ∧ j ≤ n ∧ i = .int .i64 (j : Int) ∧ w = wr ∧ Hid (∀ k, k < j → l[k]? ≠ some x))
  case atStart => exact ⟨0, rfl, by omega, rfl, rfl, Lib.hid (by intro k hk; omega)⟩
  case round =>
    obtain ⟨j, hgk, hj, rfl, rfl, HR⟩ := hrel
    have HG := Lib.hid hgk
    clear hgk
    by_cases hlt : j < n
    · obtain ⟨b, o, y, rfl, hb, hp, hc⟩ := HA.out.at hlt
      have c1 := hc w (Same.refl _ _ _)
      have hi : (j : Int) < (n : Int) := by omega
      have HP := Lib.hid hp
      have HLT := Lib.hid hlt
      clear hc hb hp hlt
      by_cases hxy : x = y
      · have hb : (x == y) = true := beq_iff_eq.2 hxy
        have hyes : (0 : Int) ≤ (j : Int) ↔ x ∈ l := ⟨fun _ => by rw [hxy]; exact List.mem_of_getElem? HP.out, fun _ => by omega⟩
        have HY := Lib.hid hyes
        clear hxy hyes HA HR
        go_wp2_with fail
        go_ret
        exact ⟨_, rfl, HY.out, rfl⟩
      · have hb : (x == y) = false := beq_eq_false_iff_ne.2 hxy
        have HN : Hid (∀ k, k < j + 1 → l[k]? ≠ some x) := Lib.hid fun k hk hr => by
          rcases Nat.lt_succ_iff_lt_or_eq.1 hk with h | h
          · exact HR.out k h hr
          · subst h; rw [HP.out] at hr; injection hr with hr; exact hxy hr.symm
        clear hxy HA HR
        go_wp2_with fail
        go_roundg (n + 1 - (j + 1))
        case measure => have := HG.out; have := HLT.out; omega
        case rel => exact ⟨j + 1, rfl, by have := HLT.out; omega, by go_num, rfl, HN⟩
    · have hi : ¬ (j : Int) < (n : Int) := by omega
      have hno : ¬ x ∈ l := fun hm => by
        obtain ⟨k, hk, rfl⟩ := List.getElem_of_mem hm
        exact HR.out k (by have := HA.out.len; omega) (List.getElem?_eq_getElem hk)
      have HY := Lib.hid hno
      clear hno hlt HA HR
      go_wp2_with fail
      go_ret
      exact ⟨_, rfl, ⟨fun h => by omega, fun h => absurd h HY.out⟩, rfl⟩
set_option maxHeartbeats 1000000 in
theorem containsAt_any {w : World} {A : Option Addr} {n c : Nat} {l : List Int} (hA : IlIn w A n c l) (x : Int) :
    Calls Tryd.prog 57 #[.slice A n c, .int .i64 x] w fun e w' => e = .returned (.bool (decide (x ∈ l))) ∧ w = w' := by
  have hx := indexAt_any hA x
  clear hA
  go_enter Tryd.func57, Tryd.ntmps57
  go_wp2_with fail
  refine hx.mono ?_
  rintro e w' ⟨r, rfl, hr, hw⟩
  rw [← hw]
  have HR := Lib.hid hr
  clear hx hr hw w'
  go_wp2_with fail
  go_ret
  refine ⟨?_, rfl⟩
  refine congrArg (fun b => Ending.returned (.bool b)) ?_
  exact decide_eq_decide.2 HR.out


theorem IlIn.lit (w : World) (ty : TypeId) (l : List Int) (h1 : l.length ≤ 1000) : IlIn (w.alloc (.cells (i64s l).toArray ty)) (some ⟨w.heap.size, 0, none⟩) l.length l.length l :=
  IlIn.of_own (base := w.heap.size) (World.ownsRow_lit (base := w.heap.size) (size := 1) (e := ty) w (i64s l).toArray l.length (Nat.le_refl _) (by unfold maxLen; omega) (by simp [i64s])) rfl
end Go.Proofs.YtbhcgjahlfpjoaaDoor
