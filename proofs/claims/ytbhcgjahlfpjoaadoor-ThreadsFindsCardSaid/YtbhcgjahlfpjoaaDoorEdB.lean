/- edges: the walk. -/
import Derived.Test.YtbhcgjahlfpjoaaDoorEdA
import Derived.Deep.RegionHeld3
import Derived.StillTactics
import Derived.Deep.Cut
namespace Go.Proofs.YtbhcgjahlfpjoaaDoor
open Go.RowKit

/-- A list of ranges, handed over. -/
structure RgArg where
  A : Option Addr
  n : Nat
  c : Nat
  l : List Rg
def RgArg.val (x : RgArg) : Value := .slice x.A x.n x.c
def flatR (xs : List RgArg) : List Rg := xs.flatMap (·.l)
theorem flatR_take (xs : List RgArg) (j : Nat) (x : RgArg) (h : xs[j]? = some x) : flatR (xs.take (j + 1)) = flatR (xs.take j) ++ x.l := by
  unfold flatR
  rw [List.take_add_one, h]
  simp
theorem flatR_len' : ∀ (xs : List RgArg), (∀ x ∈ xs, x.l.length ≤ 1000000) → (flatR xs).length ≤ 1000000 * xs.length
  | [], _ => Nat.le_refl _
  | a :: r, h => by
    have h1 := h a (.head _)
    have h2 := flatR_len' r fun x hx => h x (.tail _ hx)
    simp only [flatR, List.flatMap_cons, List.length_append, List.length_cons] at h2 ⊢
    omega
theorem flatR_len (xs : List RgArg) (h : ∀ x ∈ xs, x.l.length ≤ 1000000) (j : Nat) : (flatR (xs.take j)).length ≤ 1000000 * j := by
  have h1 := flatR_len' (xs.take j) fun x hx => h x (List.take_subset _ _ hx)
  have h2 : (xs.take j).length ≤ j := by rw [List.length_take]; omega
  omega
theorem edgesF_len (l : List Rg) : (edgesF l).length ≤ l.length * 2 := by
  induction l with
  | nil => exact Nat.le_refl _
  | cons x r ih =>
    simp only [edgesF, List.length_append, List.length_cons]
    split
    · simp only [List.length_cons, List.length_nil]; omega
    · simp only [List.length_nil]; omega

theorem elEd : ElemOK Tryd.prog 144 151 2 16 := .mk' (z := .agg #[.int .i32 0, .int .i64 0]) Tryd.underlying144 (by kernel_rfl) rfl (by decide)

theorem own_above {w : World} {base : Nat} {e : TypeId} {size n : Nat} {v : Value} {xs : List Value} (h : w.ownsRow base e size v n xs) : ∀ k, v.ownBlock = some k → base ≤ k := by
  intro k hk
  rcases h.2 with ⟨rfl, _⟩ | ⟨g, cap, cur, rfl, hb, _⟩
  · simp [Value.ownBlock] at hk
  · obtain rfl : g = k := by simpa [Value.ownBlock] using hk
    exact hb

structure EdRel (w wr : World) (l : List Rg) (v : Value) : Prop where
  own : wr.ownsRow w.heap.size 151 2 v (edgesF l).length (edCells (edgesF l))
  below : Below w.heap.size w wr

set_option maxRecDepth 20000 in
set_option maxHeartbeats 2000000 in
theorem edges_any {w : World} {Lb m cm : Nat} {xs : List RgArg} (hm : xs.length = m) (hm2 : m ≤ 2) (hLb : Lb < w.heap.size) (hc : ∀ j x, xs[j]? = some x → w.cell? ⟨Lb, j, none⟩ = some x.val ∧ RgIn w x.A x.n x.c x.l) (hn : ∀ x ∈ xs, x.l.length ≤ 1000000) :
    Calls Tryd.prog 70 #[.slice (some ⟨Lb, 0, none⟩) m cm] w fun e w' => ∃ v E, e = .returned v ∧ (edgesF (flatR xs)).Perm E ∧ E.Pairwise (fun a b => a.1 ≤ b.1) ∧ w'.ownsRow w.heap.size 151 2 v E.length (edCells E) ∧ Below w.heap.size w w' := by
  have HC := Lib.hid hc
  have HN := Lib.hid hn
  clear hc hn
  go_enter Tryd.func70, Tryd.ntmps70
  go_wp2_with fail
  go_loopg [3, 12] (m + 1) (fun q v i wr => ∃ (j : Nat), q = m + 1 - j ∧ j ≤ m ∧ i = .int .i64 (j : Int) ∧ Hid (EdRel w wr (flatR (xs.take j)) v))
  case atStart => exact ⟨0, rfl, by omega, rfl, Lib.hid ⟨World.ownsRow_nil _ _ _ _, Below.refl _ _⟩⟩
  case round =>
    obtain ⟨j, hgk, hj, rfl, HR⟩ := hrel
    obtain ⟨wo, hwo⟩ : ∃ wo, wo = wr := ⟨_, rfl⟩
    subst hwo
    have HG := Lib.hid hgk
    clear hgk
    by_cases hlt : j < m
    · have hx : xs[j]? = some xs[j] := List.getElem?_eq_getElem (by omega)
      have hxl := HN.out _ (List.getElem_mem (l := xs) (n := j) (by omega))
      obtain ⟨hc1, hin⟩ := HC.out _ _ hx
      generalize xs[j] = x at hx hc1 hin hxl
      obtain ⟨A, n, c, l⟩ := x
      simp only [RgArg.val] at hc1 hin hxl
      have c1 := (HR.out.below.cell (p := ⟨Lb, j, none⟩) hLb).trans hc1
      have hi : (j : Int) < (m : Int) := by omega
      have hnl : l.length = n := hin.len
      have HIN := Lib.hid hin
      have HX := Lib.hid hx
      have HLT := Lib.hid hlt
      have HRO := Lib.hid HR.out
      have HJ := Lib.hid hj
      obtain ⟨B, d, rfl, hmd, hdm⟩ := own_form HR.out.own
      have HN2 := HN
      clear hc1 hin hx hlt HC HN hmd hdm hj
      go_wp2_with fail
      go_loopg [3, 18] (n + 1) (fun q2 v i W => ∃ (k : Nat), q2 = n + 1 - k ∧ k ≤ n ∧ i = .int .i64 (k : Int) ∧ Hid (EdRel w W (flatR (xs.take j) ++ l.take k) v))
      case atStart => exact ⟨0, rfl, by omega, rfl, Lib.hid (by simpa using HRO.out)⟩
      case round =>
        obtain ⟨k, hgk2, hk, rfl, HI⟩ := hrel
        have HG2 := Lib.hid hgk2
        clear hgk2
        by_cases hlt2 : k < n
        · obtain ⟨b, o, p, rfl, hb, hp, hcc, hf⟩ := HIN.out.at hlt2
          obtain ⟨u1, u2⟩ := hcc wr (.of_below HI.out.below (Nat.le_refl _))
          have hi2 : (k : Int) < (n : Int) := by omega
          have HP := Lib.hid hp
          have HLT2 := Lib.hid hlt2
          clear hcc hp hlt2 HRO HIN c1
          have hB1 : Below w.heap.size w (wr.alloc (.cells #[.int .i32 p.1, .int .i32 p.2] 66)) := HI.out.below.alloc HI.out.below.size _
          have hown := HI.out.own.alloc (.cells #[.int .i32 p.1, .int .i32 p.2] 66)
          obtain ⟨B2, d2, rfl, hmd2, hdm2⟩ := own_form hown
          have hBk := Blk.new wr 66 #[.int .i32 p.1, .int .i32 p.2]
          have x1 := hBk.cell 0
          have x2 := hBk.cell 1
          simp only [List.getElem?_toArray, List.getElem?_cons_zero, List.getElem?_cons_succ] at x1 x2
          have hlen : (edgesF (flatR (xs.take j) ++ l.take k)).length ≤ 4000000 := by
            have h1 := edgesF_len (flatR (xs.take j) ++ l.take k)
            have h2 := flatR_len xs HN2.out j
            have h3 := HLT.out
            rw [List.length_append, List.length_take] at h1
            have h4 : 1000000 * j ≤ 1000000 := by omega
            omega
          have hnext : edgesF (flatR (xs.take j) ++ l.take (k + 1)) = edgesF (flatR (xs.take j) ++ l.take k) ++ edgesF [p] := by
            rw [List.take_add_one, HP.out, ← List.append_assoc, Option.toList_some, edgesF_append _ [p]]
          have hX : edgesF [p] = if max p.1 0 ≤ min p.2 1114111 then [(max p.1 0, 1), (min p.2 1114111 + 1, -1)] else [] := by simp only [edgesF, List.append_nil]; rfl
          have hxf : -2147483648 ≤ max p.1 0 ∧ max p.1 0 ≤ 2147483647 ∧ -2147483648 ≤ min p.2 1114111 ∧ min p.2 1114111 ≤ 1114111 := by omega
          have HNX := Lib.hid hnext
          clear hBk hnext
          generalize edgesF (flatR (xs.take j) ++ l.take k) = E at hown hlen HNX ⊢
          go_wp2_with fail
          generalize wr.alloc (.cells #[.int .i32 p.1, .int .i32 p.2] 66) = W1 at hB1 x1 x2 hown ⊢
          go_quiet (fail)
          have hBV : Below w.heap.size w (W1.drewN nq) := hB1.drewN
          have hownV : (W1.drewN nq).ownsRow w.heap.size 151 2 (.slice B2 E.length d2) E.length (edCells E) := hown
          generalize W1.drewN nq = V at hBV hownV ⊢
          clear hown hB1 x1 x2 u1 u2
          generalize max p.1 0 = xa at hX hxf ⊢
          generalize min p.2 1114111 = xb at hX hxf ⊢
          by_cases hgood : xa ≤ xb
          · rw [if_pos hgood] at hX
            have hsV := hBV.size
            have hab := own_above hownV
            go_wp2_with (at_builtin; refine wpList_app _ rfl _ _ 144 rfl w.heap.size 151 elEd _ _ _ rfl (hownV.alloc _) 0 (V.heap.size + 1) _ 2 2 [.int .i32 xa, .int .i64 1, .int .i32 (xb + 1), .int .i64 (-1)] rfl (fun h => by cases h) rfl (Rd.new V _ _ _ (Nat.zero_le _) (by omega)) (by simp [Value.oneCell']) (by unfold maxLen; omega) (by omega) (by simp; omega) ?_; intro v2 V2 hv2 hg2 _ _; obtain ⟨B3, d3, rfl, hd3, hd3'⟩ := own_form hv2)
            go_roundg (n + 1 - (k + 1))
            case measure => have := HG2.out; have := HLT2.out; omega
            case rel =>
              refine ⟨k + 1, rfl, by have := HLT2.out; omega, by go_num, Lib.hid ⟨?_, ?_⟩⟩
              · rw [HNX.out, hX, List.length_append, edCells_append]
                exact hv2
              · exact (hBV.alloc hsV _).grown hg2 (by simp; omega) hab
          · rw [if_neg hgood] at hX
            go_wp2_with fail
            go_roundg (n + 1 - (k + 1))
            case measure => have := HG2.out; have := HLT2.out; omega
            case rel =>
              refine ⟨k + 1, rfl, by have := HLT2.out; omega, by go_num, Lib.hid ⟨?_, hBV⟩⟩
              rw [HNX.out, hX, List.append_nil]
              exact hownV
        · have hkn : k = n := by omega
          subst hkn
          have hi2 : ¬ (k : Int) < (k : Int) := by omega
          have hnext : flatR (xs.take j) ++ l.take k = flatR (xs.take (j + 1)) := by
            rw [flatR_take xs j _ HX.out, List.take_of_length_le (l := l) (by omega)]
          rw [hnext] at HI
          clear hnext HRO HIN c1 hlt2
          go_wp2_with fail
          go_roundg (m + 1 - (j + 1))
          case measure => have := HG.out; have := HLT.out; omega
          case rel => exact ⟨j + 1, rfl, by have := HLT.out; omega, by go_num, HI⟩
    · have hjm : j = m := by omega
      subst hjm
      have hi : ¬ (j : Int) < (j : Int) := by omega
      have hre : flatR (xs.take j) = flatR xs := by rw [List.take_of_length_le (by omega)]
      rw [hre] at HR
      have hlen : (edgesF (flatR xs)).length ≤ 4000000 := by
        have h1 := edgesF_len (flatR xs)
        have h2 := flatR_len' xs HN.out
        omega
      have hown := HR.out.own
      have hB := HR.out.below
      obtain ⟨B2, d2, rfl, hmd2, hdm2⟩ := own_form hown
      have hs := sortEd_any hown hlen
      clear hlt HC HN hre HR
      go_wp2_with (go_at_call 73; refine hs.mono ?_; rintro e w' ⟨rfl, E', hp, hsd, hown', hB'⟩)
      go_ret
      exact ⟨_, E', rfl, hp, hsd, by rw [← hp.length_eq]; exact hown', hB.trans hB'⟩
end Go.Proofs.YtbhcgjahlfpjoaaDoor
