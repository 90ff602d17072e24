/- ProgsParts: are all instructions' places? -/
import Derived.Test.YtbhcgjahlfpjoaaPn3
namespace Go.Proofs.Ytbhcgjahlfpjoaa
open Go.RowKit

/-- Told: are all instructions' places? -/
def PlB (n : Nat) (l : List Int) (w : World) (e : Ending) (w' : World) : Prop := ∃ b, e = .returned (.bool b) ∧ (b = true ↔ InL n l) ∧ Below w.heap.size w w'
set_option maxRecDepth 20000 in
set_option maxHeartbeats 2000000 in
theorem places_any {w : World} {A : Option Addr} {n c : Nat} {st cp : Int} {L : List MI} (hA : PgIn w A n c L) {B : Option Addr} {m d : Nat} {l : List Int} (hI : IlIn w B m d l) :
    Calls Try.prog 43 #[.agg #[.slice A n c, .int .i64 st, .int .i64 cp], .slice B m d] w (PlB n l w) := by
  have hb : Below w.heap.size w (w.alloc (.cells #[.slice A n c, .int .i64 st, .int .i64 cp] 38)) := (Below.refl _ _).alloc (Nat.le_refl _) _
  have hB := Blk.new w 38 #[.slice A n c, .int .i64 st, .int .i64 cp]
  have hmm : (m : Int) ≤ 9223372036854775807 := by have h1 := hI.max; have h2 := hI.le; unfold maxLen at h1; omega
  have hnn : (n : Int) ≤ 9223372036854775807 := by have h1 := hA.max; have h2 := hA.le; unfold maxLen at h1; omega
  have HI := Lib.hid (hI.below hb)
  have HB := Lib.hid hb
  have HBK := Lib.hid hB
  have hz0 : w.heap.size < (w.alloc (.cells #[.slice A n c, .int .i64 st, .int .i64 cp] 38)).heap.size := by simp
  have HZ := Lib.hid hz0
  clear hA hI hb hB hz0
  go_enter Try.func43, Try.ntmps43
  go_wp2_with fail
  generalize w.alloc (.cells #[.slice A n c, .int .i64 st, .int .i64 cp] 38) = w0 at HI HB HBK HZ ⊢
  go_loopg [5] (m + 1) (fun q i W => ∃ j : Nat, q = m + 1 - j ∧ j ≤ m ∧ i = .int .i64 (j : Int) ∧ Hid (Below w0.heap.size w0 W) ∧ Hid (∀ k x, k < j → l[k]? = some x → 0 ≤ x ∧ x < (n : Int)))
  case atStart => exact ⟨0, rfl, Nat.zero_le _, rfl, Lib.hid (Below.refl _ _), Lib.hid fun k x hk => by omega⟩
  case round =>
    obtain ⟨j, hgk, hj, rfl, HR, HS⟩ := hrel
    have HG := Lib.hid hgk
    have HJ := Lib.hid hj
    clear hgk hj
    by_cases hlt : j < m
    · obtain ⟨b, o, x, rfl, hb, hx, hc⟩ := HI.out.at hlt
      have c1 := hc wr (.of_below HR.out (Nat.le_refl _))
      have c0 := (HBK.out.below HR.out HZ.out).cell 0
      simp only [List.getElem?_toArray, List.getElem?_cons_zero] at c0
      have hi : (j : Int) < (m : Int) := by omega
      have HX := Lib.hid hx
      have HLT := Lib.hid hlt
      clear hc hb hx hlt
      by_cases h0 : 0 ≤ x
      · have d0 : decide (x < 0) = false := decide_eq_false (by omega)
        by_cases h1 : x < (n : Int)
        · have d1 : decide ((n : Int) ≤ x) = false := decide_eq_false (by omega)
          have HN : Hid (∀ k y, k < j + 1 → l[k]? = some y → 0 ≤ y ∧ y < (n : Int)) := Lib.hid fun k y hk hy => by
            rcases Nat.lt_succ_iff_lt_or_eq.1 hk with h | h
            · exact HS.out k y h hy
            · subst h; rw [HX.out] at hy; injection hy with hy; subst hy; exact ⟨h0, h1⟩
          clear h0 h1
          go_wp2_with fail
          go_quiet (fail)
          go_wp2_with fail
          go_roundg (m + 1 - (j + 1))
          case measure => have := HG.out; have := HLT.out; omega
          case rel => exact ⟨j + 1, rfl, by have := HLT.out; omega, by go_num, Lib.hid HR.out.drewN, HN⟩
        · have d1 : decide ((n : Int) ≤ x) = true := decide_eq_true (by omega)
          have hno : ¬ InL n l := fun h => h1 (h x (List.mem_of_getElem? HX.out)).2
          have HNO := Lib.hid hno
          clear h0 h1 hno
          go_wp2_with fail
          go_quiet (fail)
          go_wp2_with fail
          go_ret
          exact ⟨false, rfl, ⟨fun h => (by cases h), fun h => absurd h HNO.out⟩, HB.out.trans (HR.out.drewN.mono HB.out.size)⟩
      · have d0 : decide (x < 0) = true := decide_eq_true (by omega)
        have hno : ¬ InL n l := fun h => h0 (h x (List.mem_of_getElem? HX.out)).1
        have HNO := Lib.hid hno
        clear h0 hno
        go_wp2_with fail
        go_quiet (fail)
        go_wp2_with fail
        go_ret
        exact ⟨false, rfl, ⟨fun h => (by cases h), fun h => absurd h HNO.out⟩, HB.out.trans (HR.out.drewN.mono HB.out.size)⟩
    · have hi : ¬ (j : Int) < (m : Int) := by omega
      have hall : InL n l := fun x hx => by
        obtain ⟨k, hk, rfl⟩ := List.getElem_of_mem hx
        exact HS.out k _ (by have := HI.out.len; omega) (List.getElem?_eq_getElem hk)
      have HF := Lib.hid hall
      clear hlt hall
      go_wp2_with fail
      go_ret
      exact ⟨true, rfl, ⟨fun _ => HF.out, fun _ => rfl⟩, HB.out.trans (HR.out.mono HB.out.size)⟩
end Go.Proofs.Ytbhcgjahlfpjoaa
