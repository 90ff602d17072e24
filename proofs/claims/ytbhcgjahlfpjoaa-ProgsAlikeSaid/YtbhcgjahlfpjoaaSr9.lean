/- slices.Sort of runes: of any number. -/
import Derived.Sort.AssemblyPlain
import Derived.Sort.WalkA14
import Derived.Sort.Grow
import Derived.Test.YtbhcgjahlfpjoaaRs1
import Derived.Test.YtbhcgjahlfpjoaaSr2
import Derived.Test.YtbhcgjahlfpjoaaSr3
import Derived.Test.YtbhcgjahlfpjoaaSr4
import Derived.Test.YtbhcgjahlfpjoaaSr5
import Derived.Test.YtbhcgjahlfpjoaaSr7
import Derived.Test.YtbhcgjahlfpjoaaSr8
namespace Go.Proofs.Ytbhcgjahlfpjoaa
open Go.RowKit Go.Sort Go.Lib

theorem calleesR : CalleesR where
  ins := insSort_any
  brk := breakPatterns_rn
  piv := choosePivot_rn
  par := partialInsertionSort_rn
  peq := partitionEqualOrdered_rn
  prt := partitionOrdered_rn
theorem plainR : Plain13 where
  swo := swo_ltInt
  ins := insertionSort_holds
  par := partialInsertionSort_holds
  prt := partition_holds ltInt
  peq := partitionEqual_holds ltInt
  pdq := pdq_sorts ltInt

set_option maxRecDepth 20000 in
set_option maxHeartbeats 2000000 in
theorem sortR_any {w : World} {base : Nat} {B : Option Addr} {n c : Nat} {l : List Int} (h : w.ownsRow base 21 1 (.slice B n c) n (i32s l)) (h0 : 0 < n) (hn : n ≤ 10000000) :
    Calls Try.prog 77 #[.slice B n c] w fun e w' => e = .returned (.tuple #[]) ∧
      ∃ r : List Int, l.Perm r ∧ r.Pairwise (· ≤ ·) ∧ w'.ownsRow base 21 1 (.slice B n c) n (i32s r) ∧ w.grownBy w' (Value.slice B n c).ownBlock := by
  have hl : l.length = n := by have := h.1; rw [i32s_length] at this; omega
  obtain ⟨g, cap, hv, hgb, hgl⟩ := h.form h0
  injection hv with hv1 _ hv2
  subst hv1; subst hv2
  obtain ⟨cur, hg, _, h3, h4, h1, h2⟩ := own_blk h
  have hH : Holds encR w g 0 l.toArray := by
    intro j hj
    have hj' : j < l.length := by simpa using hj
    refine ⟨?_, hg.frozen _⟩
    rw [hg.cell, Nat.zero_add, getElem!_pos _ j hj]
    have e1 := i32s_at (List.getElem?_eq_getElem hj')
    rw [← h4, List.getElem?_take, if_pos (by omega), Array.getElem?_toList] at e1
    exact e1
  have hz0 : l.toArray.size = n := by simpa using hl
  have hcon := fun lim (hlim : lim < 4611686018427387904) => pdqsort_rn calleesR plainR (n + 1) g 0 c 0 n lim l.toArray w (by omega) hH hgl (Nat.zero_le _) (by omega) (by omega) hlim (Or.inl rfl)
  rw [hz0] at hcon
  have hres := fun lim => pdq_sorts ltInt swo_ltInt l.toArray 0 n lim true true (Nat.zero_le _) (by omega) (Or.inl rfl)
  have hend : ∀ (d' : Array Int) (q : Nat) (os : Array Obj), PermIn 0 n l.toArray d' → SortedIn ltInt 0 n d' → ∃ r : List Int, l.Perm r ∧ r.Pairwise (· ≤ ·) ∧ (grow (putRow encR (Sort.ahead w q) g 0 d') os).ownsRow base 21 1 (.slice (some ⟨g, 0, none⟩) n c) n (i32s r) ∧ w.grownBy (grow (putRow encR (Sort.ahead w q) g 0 d') os) (Value.slice (some ⟨g, 0, none⟩) n c).ownBlock := by
    intro d' q os hp hs
    obtain ⟨hp1, _, hp2⟩ := hp
    have hz : d'.size = n := by rw [hp1]; simpa using hl
    rw [show l.toArray.extract 0 n = l.toArray by rw [← hl]; exact Array.extract_size, show d'.extract 0 n = d' by rw [← hz]; exact Array.extract_size] at hp2
    have hdl : d'.toList.length = n := by simpa using hz
    refine ⟨d'.toList, hp2.symm, ?_, ?_, ?_⟩
    · rw [List.pairwise_iff_getElem]
      intro i j hi hj hij
      have := hs i j (Nat.zero_le _) hij (by omega)
      rw [getElem!_pos _ j (by omega), getElem!_pos _ i (by omega)] at this
      have := of_decide_eq_false this
      simp only [Array.getElem_toList]
      omega
    · have hb' : Blk (grow (putRow encR (Sort.ahead w q) g 0 d') os) g 21 (putCells encR 0 d' cur) := by
        unfold Blk at hg ⊢
        unfold grow putRow mapBlock Sort.ahead
        dsimp only
        rw [Array.getElem?_append_left (by simpa using hgl), Array.getElem?_modify, if_pos rfl, hg]
        rfl
      refine ⟨by rw [i32s_length, hdl]; omega, .inr ⟨g, c, _, rfl, hgb, hb', h1, h2, by simpa [putCells] using h3, ?_⟩⟩
      apply List.ext_getElem?
      intro t
      rw [List.getElem?_take]
      by_cases ht : t < n * 1
      · rw [if_pos ht, Array.getElem?_toList]
        rw [i32s_at (List.getElem?_eq_getElem (by omega))]
        have htc : t < cur.size := by omega
        simp only [putCells, Array.getElem?_mapIdx, Array.getElem?_eq_getElem htc, Option.map_some]
        rw [if_pos (by omega), getElem!_pos _ _ (by omega)]
        simp
      · rw [if_neg ht, List.getElem?_eq_none (by rw [i32s_length]; omega)]
    · refine ⟨rfl, rfl, rfl, ?_, fun k hk hne => ?_⟩
      · simp [grow, putRow, mapBlock, Sort.ahead]
      · unfold grow putRow mapBlock Sort.ahead
        dsimp only
        rw [Array.getElem?_append_left (by simpa using hk), Array.getElem?_modify, if_neg (fun e => hne (by rw [← e]; rfl))]
  have HE := Lib.hid hend
  have HR := Lib.hid hres
  have hb := fun W => bitsLen_any (n : Int) W (by omega) (by omega)
  have wr : IntKind.u64.wrap (n : Int) = n := IntWalk.u64_in _ (by omega)
  have hbl : Lib.bitLen (n : Int).toNat < 4611686018427387904 := by
    have h5 := bitLen_eq n (by omega)
    have h6 := (bitsLen_le_iff n 62).2 (by omega)
    rw [Int.toNat_natCast, h5]
    omega
  have hpd := hcon _ hbl
  clear hend hres h hg h3 h4 h1 h2 hH hz0 hl hcon hbl
  go_enter Try.func77, Try.ntmps77
  go_wp2_with (first | (go_at_call 99; refine (hb _).mono ?_; rintro e w' ⟨rfl, rfl⟩) | (go_at_call 98; refine hpd.mono ?_; rintro e w' ⟨rfl, q, os, hw⟩))
  refine bodyPost_end (results_none (by rfl) _ _ _) (by rfl) ?_
  refine ⟨rfl, ?_⟩
  exact HE.out _ q os (HR.out _).1 (HR.out _).2
end Go.Proofs.Ytbhcgjahlfpjoaa
