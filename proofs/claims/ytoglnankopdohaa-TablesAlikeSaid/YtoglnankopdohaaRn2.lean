/- slices.Sort at runes, of few. -/
import Derived.Sort.LotA
import Derived.WalkKit
import Derived.BigGuard
import Derived.BigCall
import Derived.CellFam
import Derived.Deep.Draws
import Derived.Deep.QuietTactic
import Derived.BigQuiet
import Derived.Sort.WalkA
import Derived.Test.YtoglnankopdohaaRn1
import Derived.Test.YtoglnankopdohaaEdA
namespace Go.Proofs.Ytoglnankopdohaa
open Go.RowKit Go.Sort

set_option maxHeartbeats 1000000 in
theorem less_any (x y : Int) (w : World) : Calls Try.prog 94 #[.int .i32 x, .int .i32 y] w fun e w' => e = .returned (.bool (Sort.ltInt x y)) ∧ w' = w := by
  go_enter Try.func94, Try.ntmps94
  go_wp2_with (go_at_call 101; refine (isNaN_any _ _).mono ?_; rintro e w' ⟨rfl, hw⟩; rw [hw])
  go_ret
  exact ⟨rfl, rfl⟩

set_option maxHeartbeats 2000000 in
theorem insSort_any (blk off cap a b : Nat) (d : Array Int) (w : World) (hH : Holds (Value.int .i32) w blk off d) (hab : a ≤ b) (hb : b ≤ d.size) (hsz : d.size < 4611686018427387904) :
    Calls Try.prog 88 #[.slice (some ⟨blk, off, none⟩) d.size cap, .int .i64 a, .int .i64 b] w fun e w' =>
      e = .returned (.tuple #[]) ∧ ∃ n, w' = putRow (Value.int .i32) (Sort.ahead w n) blk off (Sort.insertionSort ltInt d a b) := by
  go_enter Try.func88, Try.ntmps88
  go_wp2
  go_loopw [6] (fun vi wr => ∃ (i n : Nat) (dk : Array Int), vi = .int .i64 i ∧ a < i ∧ i ≤ b + 1 ∧ dk.size = d.size ∧ wr = putRow (Value.int .i32) (Sort.ahead w n) blk off dk ∧
      insOuter ltInt a b i dk = insOuter ltInt a b (a + 1) d) (fun vi _ => b + 1 - (intOf vi).toNat)
  case atStart => exact ⟨a + 1, 0, d, by go_num, by omega, by omega, rfl, (putRow_self _ _ _ _ _ hH).symm, rfl⟩
  case round =>
    obtain ⟨i, n, dk, rfl, hai, hib, hsk, hwr, hO⟩ := hrel
    have HO : Hid (insOuter ltInt a b i dk = insOuter ltInt a b (a + 1) d) := hO
    clear hO
    go_wp2
    · go_loopw [7] (fun vj wr2 => ∃ (j m : Nat) (dj : Array Int), vj = .int .i64 j ∧ a ≤ j ∧ j ≤ i ∧ dj.size = d.size ∧ wr2 = putRow (Value.int .i32) (Sort.ahead w m) blk off dj ∧
          insInner ltInt a j dj = insInner ltInt a i dk) (fun vj _ => (intOf vj).toNat)
      case atStart => exact ⟨i, n, dk, rfl, by omega, Nat.le_refl _, hsk, rfl, rfl⟩
      case round =>
        obtain ⟨j, m, dj, rfl, haj, hji, hsj, hw2, hI⟩ := hrel
        have hlt : i < b := by assumption
        obtain ⟨G, hG⟩ : ∃ G : Nat → Int, ∀ t, G t = dj[t]! := ⟨fun t => dj[t]!, fun _ => rfl⟩
        have hcw : ∀ t, t < d.size → wr.cell? ⟨blk, off + t, none⟩ = some (.int .i32 (G t)) := fun t ht => by
          rw [hw2, hG]; exact cell?_putRow _ _ _ _ d dj (holds_ahead _ _ _ _ _ _ hH) hsj t (by omega)
        have hfw : ∀ t, t < d.size → wr.frozen? ⟨blk, off + t, none⟩ = false := fun t ht => by
          rw [hw2, frozen?_putRow]; exact ((holds_ahead _ _ m _ _ _ hH) t ht).2
        have HW : Hid (wr = putRow (Value.int .i32) (Sort.ahead w m) blk off dj) := hw2
        have HG : Hid (∀ t, G t = dj[t]!) := hG
        have HI : Hid (insInner ltInt a j dj = insInner ltInt a i dk) := hI
        clear hw2 hG hI hH
        have out : (j ≤ a ∨ ltInt dj[j]! dj[j - 1]! = false) → ∀ q, ∃ i' n' dk', Value.int .i64 ((i : Int) + 1) = .int .i64 (i' : Nat) ∧ a < i' ∧ i' ≤ b + 1 ∧ dk'.size = d.size ∧
            wr.drewN q = putRow (Value.int .i32) (Sort.ahead w n') blk off dk' ∧ insOuter ltInt a b i' dk' = insOuter ltInt a b (a + 1) d := fun hs q =>
          ⟨i + 1, m + q, dj, by go_num, by omega, by omega, hsj, by rw [HW.out]; exact putRow_drewN _ _ _ _ _ _ _,
            by rw [← HO.out, insOuter_go _ _ _ _ _ hlt, ← HI.out, insInner_stop _ _ _ _ hs]⟩
        have OUT : Hid _ := out
        clear out
        go_wp2
        by_cases hja : a < j
        · go_quiet (first | (go_at_call 94; refine Calls.quiet_of_same (less_any _ _ _)))
          go_wp2
          · have hl : ltInt (G j) (G (j - 1)) = true := by assumption
            go_region
            all_goals go_wp2
            go_roundw
            case rel =>
              refine ⟨j - 1, m + (nq + 1), swp dj j (j - 1), by congr 1; omega, by omega, by omega, by rw [size_swp]; exact hsj, ?_, ?_⟩
              · rw [HW.out, HG.out, HG.out]
                exact swap_worldA _ w m (nq + 1) blk off dj j (j - 1) (by omega) (by omega)
              · rw [← HI.out, insInner_go ltInt a j dj hja (by rw [← HG.out, ← HG.out]; exact hl)]
            case measure => simp [intOf]; omega
          · have hl : ltInt (G j) (G (j - 1)) = false := by assumption
            go_roundw
            case rel => exact OUT.out (Or.inr (by rw [← HG.out, ← HG.out]; exact hl)) nq
            case measure => simp [intOf]; omega
        · go_quiet (first | (go_at_call 94; refine Calls.quiet_of_same (less_any _ _ _)))
          go_wp2
          go_roundw
          case rel => exact OUT.out (Or.inl (by omega)) nq
          case measure => simp [intOf]; omega
    · have hge : ¬ i < b := by assumption
      go_end0
      exact ⟨rfl, n, by unfold Sort.insertionSort; rw [← HO.out, insOuter_stop _ _ _ _ _ hge]⟩

theorem bitsLen_any (x : Int) (w : World) (h0 : 0 ≤ x) (h1 : x ≤ 4611686018427387904) : Calls Try.prog 80 #[.int .u64 x] w fun e w' => e = .returned (.int .i64 (Lib.bitLen x.toNat)) ∧ w' = w := by
  have h := Any.bits_Len (SlLaysF0.n15.bits (P := Try.prog) (ρ := Try.sortEd_ren) { Try.sortEd with }) x w h0 (by omega)
  exact h
set_option maxRecDepth 20000 in
set_option maxHeartbeats 1000000 in
theorem pdq_any (blk cap : Nat) (d : Array Int) (lim : Int) (w : World) (hH : Holds (Value.int .i32) w blk 0 d) (h12 : d.size ≤ 12) :
    Calls Try.prog 79 #[.slice (some ⟨blk, 0, none⟩) d.size cap, .int .i64 0, .int .i64 d.size, .int .i64 lim] w fun e w' =>
      e = .returned (.tuple #[]) ∧ ∃ n, w' = putRow (Value.int .i32) (Sort.ahead w n) blk 0 (Sort.insertionSort ltInt d 0 d.size) := by
  have hx := insSort_any blk 0 cap 0 d.size d w hH (Nat.zero_le _) (Nat.le_refl _) (by omega)
  have h12' : (d.size : Int) ≤ 12 := by omega
  clear hH
  go_enter Try.func79, Try.ntmps79
  go_wp2_with fail
  go_loopg [1, 2, 3, 8, 9] 1 (fun k s1 s2 s3 s8 s9 wr => s1 = .int .i64 0 ∧ s2 = .int .i64 d.size ∧ s3 = .int .i64 lim ∧ s8 = .bool true ∧ s9 = .bool true ∧ w = wr)
  case atStart => exact ⟨rfl, rfl, rfl, rfl, rfl, rfl⟩
  case round =>
    obtain ⟨rfl, rfl, rfl, rfl, rfl, rfl⟩ := hrel
    go_wp2_with fail
    refine hx.mono ?_
    rintro e w' ⟨rfl, n, hw⟩
    have HW := Lib.hid hw
    clear hw hx
    go_wp2_with fail
    refine bodyPost_ret (results_none (by rfl) _ _ _) (by rfl) ?_
    exact ⟨rfl, n, HW.out⟩

set_option maxHeartbeats 1000000 in
theorem sortRn_any {w : World} {base : Nat} {B : Option Addr} {n c : Nat} {l : List Int} (h : w.ownsRow base 21 1 (.slice B n c) n (i32s l)) (h0 : 0 < n) (h12 : n ≤ 12) :
    Calls Try.prog 62 #[.slice B n c] w fun e w' => e = .returned (.tuple #[]) ∧
      ∃ r : List Int, l.Perm r ∧ r.Pairwise (· ≤ ·) ∧ w'.ownsRow base 21 1 (.slice B n c) n (i32s r) ∧ w.grownBy w' (Value.slice B n c).ownBlock := by
  have hl : l.length = n := by have := h.1; rw [i32s_length] at this; omega
  obtain ⟨g, cap, hv, hgb, hgl⟩ := h.form h0
  injection hv with hv1 _ hv2
  subst hv1; subst hv2
  obtain ⟨cur, hg, _, h3, h4, h1, h2⟩ := own_blk h
  have hH : Holds (Value.int .i32) w g 0 l.toArray := by
    intro j hj
    have hj' : j < l.length := by simpa using hj
    refine ⟨?_, hg.frozen _⟩
    rw [hg.cell, Nat.zero_add, getElem!_pos _ j hj]
    have e1 := i32s_at (List.getElem?_eq_getElem hj')
    rw [← h4, List.getElem?_take, if_pos (by omega), Array.getElem?_toList] at e1
    exact e1
  have hz0 : l.toArray.size = n := by simpa using hl
  have hcon := fun lim => pdq_any g c l.toArray lim w hH (by omega)
  rw [hz0] at hcon
  obtain ⟨⟨hp1, _, hp2⟩, hs⟩ := insertionSort_holds (lt := ltInt) swo_ltInt l.toArray 0 n (Nat.zero_le _) (by omega)
  generalize Sort.insertionSort ltInt l.toArray 0 n = d' at hcon hp1 hp2 hs
  have hz : d'.size = n := by rw [hp1]; simpa using hl
  rw [show l.toArray.extract 0 n = l.toArray by rw [← hl]; exact Array.extract_size, show d'.extract 0 n = d' by rw [← hz]; exact Array.extract_size] at hp2
  have hdl : d'.toList.length = n := by simpa using hz
  have hend : ∀ q, ∃ r : List Int, l.Perm r ∧ r.Pairwise (· ≤ ·) ∧ (putRow (Value.int .i32) (Sort.ahead w q) g 0 d').ownsRow base 21 1 (.slice (some ⟨g, 0, none⟩) n c) n (i32s r) ∧ w.grownBy (putRow (Value.int .i32) (Sort.ahead w q) g 0 d') (Value.slice (some ⟨g, 0, none⟩) n c).ownBlock := by
    intro q
    refine ⟨d'.toList, hp2.symm, ?_, ?_, ?_⟩
    · rw [List.pairwise_iff_getElem]
      intro i j hi hj hij
      have := hs i j (Nat.zero_le _) hij (by omega)
      rw [getElem!_pos _ j (by omega), getElem!_pos _ i (by omega)] at this
      have := of_decide_eq_false this
      simp only [Array.getElem_toList]
      omega
    · have hb' : Blk (putRow (Value.int .i32) (Sort.ahead w q) g 0 d') g 21 (putCells (Value.int .i32) 0 d' cur) := by
        unfold Blk at hg ⊢
        unfold putRow mapBlock Sort.ahead
        dsimp only
        rw [Array.getElem?_modify, if_pos rfl, hg]
        rfl
      refine ⟨by rw [i32s_length, hdl]; omega, .inr ⟨g, c, _, rfl, hgb, hb', h1, h2, by simpa [putCells] using h3, ?_⟩⟩
      apply List.ext_getElem?
      intro t
      rw [List.getElem?_take]
      by_cases ht : t < n * 1
      · rw [if_pos ht, Array.getElem?_toList]
        rw [i32s_at (List.getElem?_eq_getElem (by omega))]
        have htc : t < cur.size := by omega
        simp only [putCells, Array.getElem?_mapIdx, Array.getElem?_eq_getElem htc, Option.map_some]
        rw [if_pos (by omega), getElem!_pos _ _ (by omega)]
        simp
      · rw [if_neg ht, List.getElem?_eq_none (by rw [i32s_length]; omega)]
    · refine ⟨rfl, rfl, rfl, ?_, fun k hk hne => ?_⟩
      · simp [putRow, mapBlock, Sort.ahead]
      · unfold putRow mapBlock Sort.ahead
        dsimp only
        rw [Array.getElem?_modify, if_neg (fun e => hne (by rw [← e]; rfl))]
  have HE := Lib.hid hend
  have hb := fun W => bitsLen_any (n : Int) W (by omega) (by omega)
  have wr : IntKind.u64.wrap (n : Int) = n := IntWalk.u64_in _ (by omega)
  clear hend h hg h3 h4 h1 h2 hH hp1 hp2 hs hz hdl hz0 hl
  go_enter Try.func62, Try.ntmps62
  go_wp2_with (first | (go_at_call 80; refine (hb _).mono ?_; rintro e w' ⟨rfl, rfl⟩) | (go_at_call 79; refine (hcon _).mono ?_; rintro e w' ⟨rfl, q, hw⟩))
  refine bodyPost_end (results_none (by rfl) _ _ _) (by rfl) ?_
  exact ⟨rfl, HE.out q⟩
end Go.Proofs.Ytoglnankopdohaa
