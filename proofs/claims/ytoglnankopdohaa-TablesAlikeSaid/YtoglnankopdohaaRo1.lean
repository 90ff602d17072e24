/- The reference's orbits: groups, sorted, great. -/
import Derived.Test.YtoglnankopdohaaTb1
import Derived.Test.YtoglnankopdohaaCl5
namespace Go.Proofs.Ytoglnankopdohaa
open Go.RowKit

/-- New blocks, one behind the other. -/
def allocs (w : World) (os : List Obj) : World := os.foldl World.alloc w
theorem allocs_size (os : List Obj) : ∀ w : World, (allocs w os).heap.size = w.heap.size + os.length := by
  induction os with
  | nil => intro w; rfl
  | cons o os ih => intro w; show (allocs (w.alloc o) os).heap.size = _; rw [ih]; simp; omega
theorem allocs_old (os : List Obj) : ∀ (w : World) (k : Nat), k < w.heap.size → (allocs w os).heap[k]? = w.heap[k]? := by
  induction os with
  | nil => intro w k _; rfl
  | cons o os ih => intro w k hk; show (allocs (w.alloc o) os).heap[k]? = _; rw [ih _ _ (by simp; omega)]; exact Below.heap_alloc _ _ _ hk
theorem allocs_new (os : List Obj) : ∀ (w : World) (i : Nat), i < os.length → (allocs w os).heap[w.heap.size + i]? = os[i]? := by
  induction os with
  | nil => intro w i h; cases h
  | cons o os ih =>
    intro w i h
    show (allocs (w.alloc o) os).heap[_]? = _
    cases i with
    | zero => rw [allocs_old _ _ _ (by simp)]; exact heap_alloc_new w o
    | succ i =>
      have := ih (w.alloc o) i (by simpa using h)
      rw [show (w.alloc o).heap.size = w.heap.size + 1 by simp] at this
      rw [show w.heap.size + (i + 1) = w.heap.size + 1 + i by omega, this]
      rfl
theorem allocs_below (os : List Obj) : ∀ w : World, Below w.heap.size w (allocs w os) := by
  induction os with
  | nil => intro w; exact Below.refl _ _
  | cons o os ih => intro w; exact ((Below.refl _ _).alloc (Nat.le_refl _) o).trans ((ih (w.alloc o)).mono (by simp))

def grpObjs : List Obj := G3.map fun g => .cells (i32s g).toArray 21
def grpSl (N : Nat) : List Value := [.slice (some ⟨N, 0, none⟩) 3 3, .slice (some ⟨N + 1, 0, none⟩) 3 3, .slice (some ⟨N + 2, 0, none⟩) 3 3, .slice (some ⟨N + 3, 0, none⟩) 3 3, .slice (some ⟨N + 4, 0, none⟩) 3 3, .slice (some ⟨N + 5, 0, none⟩) 2 2, .slice (some ⟨N + 6, 0, none⟩) 2 2]
def grpW (w : World) : World := allocs w (grpObjs ++ [.cells (grpSl w.heap.size).toArray 31])
structure GrpIn (w : World) (b : Nat) : Prop where
  at_ : ∀ i g, G3[i]? = some g → ∃ a, w.cell? ⟨b, i, none⟩ = some (.slice (some ⟨a, 0, none⟩) g.length g.length) ∧ RnIn w (some ⟨a, 0, none⟩) g.length g.length g
  lt : b < w.heap.size
theorem g3_get {i : Nat} {g : List Int} (h : G3[i]? = some g) : i < 7 := by
  have := (List.getElem?_eq_some_iff.1 h).1
  simpa [G3] using this
theorem grp_len {g : List Int} (h : g ∈ G3) : 1 ≤ g.length ∧ g.length ≤ 3 := by
  have hd : ∀ g ∈ G3, 1 ≤ g.length ∧ g.length ≤ 3 := by decide
  exact hd g h
theorem grp_in (w : World) : GrpIn (grpW w) (w.heap.size + 7) := by
  refine ⟨fun i g h => ⟨w.heap.size + i, ?_, ?_⟩, by unfold grpW; rw [allocs_size]; simp [grpObjs, G3]⟩
  · have hb : Blk (grpW w) (w.heap.size + 7) 31 (grpSl w.heap.size).toArray := (allocs_new _ w 7 (by simp [grpObjs, G3])).trans rfl
    rw [hb.cell]
    have h7 := g3_get h
    rcases i with _ | _ | _ | _ | _ | _ | _ | i
    all_goals first
      | omega
      | (simp only [G3, List.getElem?_cons_succ, List.getElem?_cons_zero] at h; injection h with h; subst h; rfl)
  · have h7 := g3_get h
    have hb : Blk (grpW w) (w.heap.size + i) 21 (i32s g).toArray := by
      refine (allocs_new _ w i (by simp [grpObjs, G3]; omega)).trans ?_
      rw [List.getElem?_append_left (by simp [grpObjs, G3]; omega)]
      simp [grpObjs, h]
    have hl := grp_len (List.mem_of_getElem? h)
    refine RnIn.of_own (base := 0) (s := g) ⟨by rw [i32s_length]; omega, .inr ⟨_, g.length, (i32s g).toArray, rfl, Nat.zero_le _, hb, Nat.le_refl _, by unfold maxLen; omega, by simp [i32s], ?_⟩⟩ rfl
    rw [Nat.mul_one]
    exact List.take_of_length_le (by simp [i32s])
set_option maxRecDepth 20000 in
set_option maxHeartbeats 1000000 in
theorem refGroups_any (w : World) : Calls Try.prog 63 #[] w fun e w' => e = .returned (.slice (some ⟨w.heap.size + 7, 0, none⟩) 7 7) ∧ GrpIn w' (w.heap.size + 7) ∧ Below w.heap.size w w' := by
  have hG : GrpIn (grpW w) (w.heap.size + 7) ∧ Below w.heap.size w (grpW w) := ⟨grp_in w, allocs_below _ w⟩
  have HG := Lib.hid hG
  clear hG
  simp only [grpW, allocs, grpObjs, grpSl, G3, i32s, List.map_cons, List.map_nil, List.cons_append, List.nil_append, List.foldl_cons, List.foldl_nil] at HG
  go_enter Try.func63, Try.ntmps63
  go_wp2_with fail
  go_ret
  exact ⟨rfl, HG.out⟩

theorem own_some {w : World} {base : Nat} {e : TypeId} {size n d : Nat} {B : Option Addr} {xs : List Value} (h : w.ownsRow base e size (.slice B n d) n xs) (h0 : 0 < n) : ∃ g, B = some ⟨g, 0, none⟩ := by
  obtain ⟨g, cap, hv, _, _⟩ := h.form h0
  injection hv with hv
  exact ⟨g, hv⟩
set_option maxHeartbeats 4000000 in
theorem refSorted_any {w : World} {A : Option Addr} {n c : Nat} {l : List Int} (hA : RnIn w A n c l) (hs : l.Pairwise (· < ·)) (hn : n ≤ 1000) :
    Calls Try.prog 64 #[.slice A n c] w fun e w' => ∃ B d, e = .returned (.slice B n d) ∧ w'.ownsRow w.heap.size 21 1 (.slice B n d) n (i32s l) ∧ Below w.heap.size w w' := by
  have HA := Lib.hid hA
  have HS := Lib.hid hs
  clear hA hs
  go_enter Try.func64, Try.ntmps64
  go_wp2_with fail
  go_loopg [3, 4] (n + 1) (fun q out i wr => ∃ (j : Nat) (B : Option Addr) (d : Nat), q = n + 1 - j ∧ j ≤ n ∧ out = .slice B j d ∧ i = .int .i64 (j : Int) ∧ Hid (wr.ownsRow w.heap.size 21 1 (.slice B j d) j (i32s (l.take j))) ∧ Hid (Below w.heap.size w wr) ∧ Hid ((j = 0 → B = none ∧ d = 0) ∧ (0 < j → ∃ g, B = some ⟨g, 0, none⟩)))
  case atStart => exact ⟨0, _, _, rfl, by omega, rfl, rfl, Lib.hid (World.ownsRow_nil _ _ _ _), Lib.hid (Below.refl _ _), Lib.hid ⟨fun _ => ⟨rfl, rfl⟩, fun h => by omega⟩⟩
  case round =>
    obtain ⟨j, B, d, hgk, hj, rfl, rfl, HO, HW, HN⟩ := hrel
    obtain ⟨wo, hwo⟩ : ∃ wo, wo = wr := ⟨_, rfl⟩
    subst hwo
    have HG := Lib.hid hgk
    clear hgk
    by_cases hlt : j < n
    · have hi : (j : Int) < (n : Int) := by omega
      obtain ⟨b2, o2, x, hAe, _, hx, hcx⟩ := HA.out.at hlt
      have c1 := hcx wo (.of_below HW.out (Nat.le_refl _))
      have hn4 : (n : Int) ≤ 1000 := by omega
      have HX := Lib.hid hx
      have HCX := Lib.hid hcx
      have HLT := Lib.hid hlt
      have htk : l.take (j + 1) = l.take j ++ [x] := by rw [List.take_add_one, hx]; rfl
      have HTK := Lib.hid htk
      have hWd : ∀ k, Below w.heap.size w (wo.drewN k) := fun k => HW.out.drewN
      have hwz : w.heap.size ≤ wo.heap.size := HW.out.size
      subst hAe
      clear hx hcx hlt htk
      go_wp2_with fail
      go_loopg [5] 1 (fun _ at_ V => at_ = .int .i64 (j : Int) ∧ wo = V)
      case atStart => exact ⟨rfl, rfl⟩
      case round =>
        obtain ⟨rfl, rfl⟩ := hrel
        by_cases hj0 : j = 0
        · obtain ⟨hBn, hd0⟩ := HN.out.1 hj0
          subst hBn; subst hd0
          obtain rfl : j = 0 := hj0
          have hd1 : decide (0 < 0) = false := rfl
          have hd2 : decide ((0 : Int) < ((0 : Nat) : Int)) = false := rfl
          go_wp2_with fail
          go_quiet (fail)
          have hv1 := World.ownsRow_made (base := w.heap.size) (size := 1) (e := 21) (wo.drewN nq) #[] 0 (by have := HW.out.size; simpa using this) (Nat.zero_le _) rfl
          have hW1 := (hWd nq).alloc (hWd nq).size (.cells #[] 21)
          have c2 := HCX.out _ (.of_below hW1 (Nat.le_refl _))
          rw [Nat.add_zero] at c2
          have HW1 := Lib.hid hW1
          clear hW1 c1
          go_wp2_with (first
            | (at_builtin; refine wpList_app _ rfl _ _ 31 rfl w.heap.size 21 elRn _ _ _ rfl (hv1.alloc _) 0 _ _ 1 1 [.int .i32 x] rfl (fun h => by cases h) rfl (Rd.newAt _ _ _ _ _ (by simp) (Nat.zero_le _)) (by simp [Value.oneCell']) (by unfold maxLen; omega) (by omega) (by simp; omega) ?_; intro v2 W2 hv2 hg2 hb2 hn2; obtain ⟨B2, d2, rfl, _, _⟩ := own_form hv2; have hW2 := (HW1.out.alloc HW1.out.size _).grown hg2 (by simp; omega) (own_above hv1); have hz2 := hW2.size; have HW2 := Lib.hid hW2; clear hW2 hg2 hb2 hn2)
            | (at_builtin; refine wpList_app _ rfl _ _ 31 rfl w.heap.size 21 elRn _ _ _ rfl hv2 0 0 _ 0 _ [] rfl (fun _ => rfl) rfl Rd.nil (by simp) (by unfold maxLen; omega) (by omega) (by omega) ?_; intro v3 W3 hv3 hg3 hb3 hn3; obtain ⟨B3, d3, rfl, _, _⟩ := own_form hv3; have hW3 := HW2.out.grown hg3 (by omega) (own_above hv2); have HW3 := Lib.hid hW3; clear hW3 hg3 hb3 hn3))
          have hfin : W3.ownsRow w.heap.size 21 1 (.slice B3 1 d3) 1 (i32s (l.take 1)) := by
            have := HTK.out
            rw [Nat.zero_add, List.take_zero, List.nil_append] at this
            rw [this]
            exact hv3
          go_roundg (n + 1 - 1)
          case measure => have := HG.out; have := HLT.out; omega
          case rel => exact ⟨1, B3, d3, rfl, by have := HLT.out; omega, rfl, by go_num, Lib.hid hfin, HW3, Lib.hid ⟨(fun h => by cases h), fun _ => own_some hfin (by omega)⟩⟩
        · obtain ⟨g, hBn⟩ := HN.out.2 (by omega)
          subst hBn
          have hj1 : 0 < j := by omega
          have hd1 : decide (0 < j) = true := decide_eq_true hj1
          have hd2 : decide ((0 : Int) < (j : Int)) = true := decide_eq_true (by omega)
          have hRo := RnIn.of_own HO.out (by have := HA.out.len; have := HLT.out; simp; omega)
          obtain ⟨b1, o1, y, hB, hb1, hy, hcy⟩ := hRo.at (k := j - 1) (by omega)
          injection hB with hB
          injection hB with e1 e2
          subst e1; subst e2
          have c0 := hcy wo (Same.refl _ _ _)
          rw [Nat.zero_add] at c0
          have hyx : decide (x < y) = false := by
            refine decide_eq_false ?_
            have h1 : l[j - 1]? = some y := by rw [List.getElem?_take, if_pos (by omega)] at hy; exact hy
            have h2 := HX.out
            obtain ⟨q1, r1⟩ := List.getElem?_eq_some_iff.1 h1
            obtain ⟨q2, r2⟩ := List.getElem?_eq_some_iff.1 h2
            have := List.pairwise_iff_getElem.1 HS.out (j - 1) j q1 q2 (by omega)
            omega
          have hwr : IntKind.i64.wrap ((j : Int) - 1) = (j : Int) - 1 := IntWalk.i64_in _ (by omega)
          have hw0 : (0 : Int) ≤ (j : Int) - 1 := by omega
          have hjd : j ≤ d := hRo.le
          have hjd2 : (j : Int) ≤ (d : Int) := by omega
          have hl1 : (i32s (l.take j)).length = j * 1 := by rw [i32s_length]; have := HA.out.len; have := HLT.out; simp; omega
          have hR0 : ∀ k, Rd ((wo.drewN k).alloc (.cells #[] 21)) 0 wo.heap.size (some ⟨g, 0, none⟩) (i32s (l.take j)) := fun k => hRo.rd.same (((Same.refl _ _ _).drewN k).alloc (Nat.le_refl _) _)
          have HR0 := Lib.hid hR0
          clear hRo hR0 hb1 hy hcy hj1
          clear hj0
          go_wp2_with fail
          go_quiet (fail)
          have hown0 := World.ownsRow_made (base := w.heap.size) (size := 1) (e := 21) (wo.drewN nq) #[] 0 (by have := HW.out.size; simpa using this) (Nat.zero_le _) rfl
          have hR1 := HR0.out nq
          go_wp2_with (first
            | (at_builtin; refine wpList_app _ rfl _ _ 31 rfl w.heap.size 21 elRn _ _ _ rfl hown0 0 wo.heap.size (some ⟨g, 0, none⟩) j _ (i32s (l.take j)) rfl (fun h => by cases h) hl1 hR1 (i32s_one _) (by unfold maxLen; omega) (by omega) (by simp; omega) ?_; intro v1 W1 hv1 hg1 hb1 hn1; simp only [Nat.zero_add, List.nil_append] at hv1; obtain ⟨B1, d1, rfl, _, _⟩ := own_form hv1; have hW1 := ((hWd nq).alloc (hWd nq).size _).grown hg1 (by have := (hWd nq).size; simp at this ⊢; omega) (own_above hown0); have c2 := HCX.out W1 (.of_below hW1 (Nat.le_refl _)); have hz1 := hW1.size; have HW1 := Lib.hid hW1; clear hW1 hg1 hb1 hn1 hown0)
            | (at_builtin; refine wpList_app _ rfl _ _ 31 rfl w.heap.size 21 elRn _ _ _ rfl (hv1.alloc _) 0 (W1.heap.size + 1) _ 1 1 [.int .i32 x] rfl (fun h => by cases h) rfl (Rd.new W1 _ _ _ (Nat.zero_le _) (by omega)) (by simp [Value.oneCell']) (by unfold maxLen; omega) (by omega) (by simp; omega) ?_; intro v2 W2 hv2 hg2 hb2 hn2; obtain ⟨B2, d2, rfl, _, _⟩ := own_form hv2; have hW2 := (HW1.out.alloc HW1.out.size _).grown hg2 (by simp; omega) (own_above hv1); have hz2 := hW2.size; have HW2 := Lib.hid hW2; clear hW2 hg2 hb2 hn2)
            | (at_builtin; refine wpList_app _ rfl _ _ 31 rfl w.heap.size 21 elRn _ _ _ rfl hv2 0 0 _ 0 _ [] rfl (fun _ => rfl) rfl Rd.nil (by simp) (by unfold maxLen; omega) (by omega) (by omega) ?_; intro v3 W3 hv3 hg3 hb3 hn3; obtain ⟨B3, d3, rfl, _, _⟩ := own_form hv3; have hW3 := HW2.out.grown hg3 (by omega) (own_above hv2); have HW3 := Lib.hid hW3; clear hW3 hg3 hb3 hn3))
          all_goals
            have hfin : W3.ownsRow w.heap.size 21 1 (.slice B3 (j + 1) d3) (j + 1) (i32s (l.take (j + 1))) := by
              rw [HTK.out, i32s_append]
              simpa [i32s] using hv3
            go_roundg (n + 1 - (j + 1))
            case measure => have := HG.out; have := HLT.out; omega
            case rel => exact ⟨j + 1, B3, d3, rfl, by have := HLT.out; omega, rfl, by go_num, Lib.hid hfin, HW3, Lib.hid ⟨fun h => by omega, fun _ => own_some hfin (by omega)⟩⟩
    · have hjn : j = n := by omega
      subst hjn
      have hi : ¬ (j : Int) < (j : Int) := by omega
      have ho := HO.out
      rw [List.take_of_length_le (by have := HA.out.len; omega)] at ho
      have HO2 := Lib.hid ho
      clear hlt ho HO
      go_wp2_with fail
      go_ret
      exact ⟨_, _, rfl, HO2.out, HW.out⟩
end Go.Proofs.Ytoglnankopdohaa
